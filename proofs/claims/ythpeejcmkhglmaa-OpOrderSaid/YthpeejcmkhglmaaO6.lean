/- Contracts of Go functions that the laws reach: what each call answers and leaves in memory, for all arguments within the bounds that each theorem names. -/
import Derived.Test.YthpeejcmkhglmaaInst
import Derived.Test.YthpeejcmkhglmaaAuto
import Derived.Test.YthpeejcmkhglmaaO5
set_option linter.unusedVariables false
set_option linter.unusedSimpArgs false
set_option maxRecDepth 100000
set_option maxHeartbeats 4000000
namespace Go.Tg
open Go Go.Proofs
theorem op_Decode (h0 : FH) (a : Option Addr) (c : Nat) (b : List UInt8) (w : World) (hs : Sat h0 w) (hr : BS h0 a c b) (hb : b.length ≤ 1000000) :
    SpecV Try.prog 72 #[.slice a b.length c] w (.tuple #[.agg (cOp (decO b).1).toArray, .int .i64 (decO b).2]) := by
  have H := St.start hs
  unfold SpecV
  refine calls_of Try.func72 rfl Try.ntmps72 (by simp) ?_
  repeat' (first | ((first | refine WL.p rfl ?_ | refine WL.u ?_ | refine WL.g rfl rfl ?_ | refine WL.gu rfl ?_); first | refine pvQ ?_ | (refine opk 3 rfl ?_; (refine ost_cmp rfl rfl rfl rfl (fun hc => ?_) (fun hc => ?_) <;> (simp only [cmpP] at hc; try exact prIQ))) | (refine opk 4 rfl ?_; (refine ost_cmp rfl rfl rfl rfl (fun hc => ?_) (fun hc => ?_) <;> (simp only [cmpP] at hc; try exact prIQ))) | (refine opk 8 rfl ?_; first | (refine ost_store1 H rfl rfl vlQ gvQ ixQ (by first | decide | (simp; omega) | (simp; done) | omega) ?_; clear H; intro wk H; simp only [List.set_cons_zero, List.set_cons_succ, Nat.reduceAdd] at H) | (refine ost_storeW H rfl rfl rfl rfl lQ ixQ lQ okQ ?_; clear H; intro wk H; simp only [List.set_cons_zero, List.set_cons_succ, Nat.reduceAdd] at H)) | (refine opk 9 rfl ?_; first | (refine ost_boxq H rfl ?_; clear H; intro bk wk H) | (refine ost_allocA H rfl ?_; clear H; intro bk wk H))) | refine Wc.seq ?_ | refine then_n ?_ | refine WL.nil ?_ | refine Wc.region ?_ | refine Wc.block ?_ | refine then_r ?_ | refine then_e ?_ | refine inb_e rfl ?_ | refine inb_o rfl ?_ | refine inb_n ?_ | refine inb_r ?_ | refine Wc.skip ?_ | refine Wc.exit ?_ | refine Wc.ret ?_ | refine Wc.cond_true rfl ?_ | refine Wc.cond_false rfl ?_ | refine WL.skp rfl rfl ?_ | refine WL.sku rfl ?_)
  generalize bk = b2 at H ⊢
  repeat' (first | ((first | refine WL.p rfl ?_ | refine WL.u ?_ | refine WL.g rfl rfl ?_ | refine WL.gu rfl ?_); first | (refine opk 1 rfl ?_; (refine ost_Sk H rfl (pack_Read _ _ _ _ _ H.sat hr (by omega)) rfl ?_; clear H; rintro vk wk hfk Lk ⟨b1, a1, c1, rfl, hr1, rfl⟩ hle H; simp only [List.cons_append, List.nil_append] at H)) | refine pvQ ?_ | (refine opk 3 rfl ?_; (refine ost_cmp rfl rfl rfl rfl (fun hc => ?_) (fun hc => ?_) <;> (simp only [cmpP] at hc; try exact prIQ))) | (refine opk 4 rfl ?_; (refine ost_cmp rfl rfl rfl rfl (fun hc => ?_) (fun hc => ?_) <;> (simp only [cmpP] at hc; try exact prIQ))) | (refine opk 8 rfl ?_; first | (refine ost_store1 H rfl rfl vlQ gvQ ixQ (by first | decide | (simp; omega) | (simp; done) | omega) ?_; clear H; intro wk H; simp only [List.set_cons_zero, List.set_cons_succ, Nat.reduceAdd] at H) | (refine ost_storeW H rfl rfl rfl rfl lQ ixQ lQ okQ ?_; clear H; intro wk H; simp only [List.set_cons_zero, List.set_cons_succ, Nat.reduceAdd] at H)) | (refine opk 9 rfl ?_; first | (refine ost_boxq H rfl ?_; clear H; intro bk wk H) | (refine ost_allocA H rfl ?_; clear H; intro bk wk H))) | refine Wc.seq ?_ | refine then_n ?_ | refine WL.nil ?_ | refine Wc.region ?_ | refine Wc.block ?_ | refine then_r ?_ | refine then_e ?_ | refine inb_e rfl ?_ | refine inb_o rfl ?_ | refine inb_n ?_ | refine inb_r ?_ | refine Wc.skip ?_ | refine Wc.exit ?_ | refine Wc.ret ?_ | refine Wc.cond_true rfl ?_ | refine Wc.cond_false rfl ?_ | refine WL.skp rfl rfl ?_ | refine WL.sku rfl ?_)
  rename_i bt _
  replace H : St w [] h0 hfk [tkr bt b1 ⟨0, b, false⟩ a1 c1, .blk bk (.cells (cOp zeroO).toArray 87 (0, 0)), .blk b2 (.cells (cOp zeroO).toArray 87 (0, 0))] wk := (((H.front 1 rfl).front 2 rfl).front 1 rfl).join
  have z23 := cOp_len zeroO
  repeat' (first | ((first | refine WL.p rfl ?_ | refine WL.u ?_ | refine WL.g rfl rfl ?_ | refine WL.gu rfl ?_); first | (refine opk 1 rfl ?_; first | (refine ost_H (A := tkr _ _ _ _ _) H rfl (by (exact ixQ)) (fun HO => tk_num8 _ _ _ _ _ _ _ HO (by assumption)) rfl ?_; clear H; rintro vk wk hfk Lk ⟨rfl, rfl, a2, c2, hr2, rfl⟩ hle H; simp only [List.cons_append, List.nil_append, List.eraseIdx_cons_zero, List.eraseIdx_cons_succ] at H) | (refine ost_H (A := tkr _ _ _ _ _) H rfl (by (exact ixQ)) (fun HO => tk_num16 _ _ _ _ _ _ _ HO (by assumption)) rfl ?_; clear H; rintro vk wk hfk Lk ⟨rfl, rfl, a2, c2, hr2, rfl⟩ hle H; simp only [List.cons_append, List.nil_append, List.eraseIdx_cons_zero, List.eraseIdx_cons_succ] at H) | (refine ost_H (A := tkr _ _ _ _ _) H rfl (by (exact ixQ)) (fun HO => tk_num32 _ _ _ _ _ _ _ HO (by assumption)) rfl ?_; clear H; rintro vk wk hfk Lk ⟨rfl, rfl, a2, c2, hr2, rfl⟩ hle H; simp only [List.cons_append, List.nil_append, List.eraseIdx_cons_zero, List.eraseIdx_cons_succ] at H)) | refine pvQ ?_ | (refine opk 3 rfl ?_; (refine ost_cmp rfl rfl rfl rfl (fun hc => ?_) (fun hc => ?_) <;> (simp only [cmpP] at hc; try exact prIQ))) | (refine opk 4 rfl ?_; (refine ost_cmp rfl rfl rfl rfl (fun hc => ?_) (fun hc => ?_) <;> (simp only [cmpP] at hc; try exact prIQ))) | (refine opk 8 rfl ?_; first | (refine ost_store1 H rfl rfl vlQ gvQ ixQ (by first | decide | (simp; omega) | (simp; done) | omega) ?_; clear H; intro wk H; simp only [List.set_cons_zero, List.set_cons_succ, Nat.reduceAdd] at H) | (refine ost_storeW H rfl rfl rfl rfl lQ ixQ lQ okQ ?_; clear H; intro wk H; simp only [List.set_cons_zero, List.set_cons_succ, Nat.reduceAdd] at H)) | (refine opk 9 rfl ?_; first | (refine ost_boxq H rfl ?_; clear H; intro bk wk H) | (refine ost_allocA H rfl ?_; clear H; intro bk wk H))) | refine Wc.seq ?_ | refine then_n ?_ | refine WL.nil ?_ | refine Wc.region ?_ | refine Wc.block ?_ | refine then_r ?_ | refine then_e ?_ | refine inb_e rfl ?_ | refine inb_o rfl ?_ | refine inb_n ?_ | refine inb_r ?_ | refine Wc.skip ?_ | refine Wc.exit ?_ | refine Wc.ret ?_ | refine Wc.cond_true rfl ?_ | refine Wc.cond_false rfl ?_ | refine WL.skp rfl rfl ?_ | refine WL.sku rfl ?_)
  have h7 := tk7_len b 7
  have hF : ∀ u, rightO u 16 = true → encO u = b → (∀ v, opN (fun i => tkN (tk7 b i)) v = { u with ctx := v }) ∧ tk7 b 7 = ⟨0, fieldB (encV u.ctx), false⟩ := fun u _ hu => ⟨fun v => by
    have := opN_of { u with ctx := v } (f := fun i => tkN (tk7 b i)) (fun k hk => tk7_num hu hk)
    exact this, tk7_end hu⟩
  have hS : ∀ v, (tk7 b 7).bad = false → (tk7 b 7).e = 0 → (tk7 b 7).xs = fieldB (encV v) → encO (opN (fun i => tkN (tk7 b i)) v) = b := fun v hb he hx => by
    have h1 := tk7_sound hb he 7 (by omega)
    rw [hx] at h1
    rw [opN_enc (fun k hk => tk7_lt hb he hk)]
    exact h1.symm
  have no5 : (∀ u, rightO u 16 = true → encO u ≠ b) → Value.tuple #[.agg (cOp zeroO).toArray, .int .i64 5] = .tuple #[.agg (cOp (decO b).1).toArray, .int .i64 (decO b).2] := fun hu => decO_fin (.inr ⟨rfl, rfl, hu⟩) rfl
  replace H : St w [] h0 hfk [tkr bt b1 (tk7 b 7) a2 c2, .blk bk (.cells (cOp (opN (fun i => tkN (tk7 b i)) fun _ => 0)).toArray 87 (0, 0)), .blk b2 (.cells (cOp zeroO).toArray 87 (0, 0))] wk := by
    rw [u8_wrap, u8_wrap, u16_wrap, u16_wrap, u16_wrap, u32_wrap2, u32_wrap2] at H
    exact H
  replace hr2 : BS hfk a2 c2 (tk7 b 7).xs := hr2
  generalize tk7 b 7 = u7 at *
  generalize (fun i => tkN (tk7 b i)) = f at *
  clear hr1
  replace H := H.split
  have lx := cOp_len (opN f fun _ => 0)
  have hB : ∀ u, rightO u 16 = true → encO u = b → u7.bad = false ∧ bytesE u7.e u7.xs = (encV u.ctx, 0, 0, []) := fun u hr hu => by
    obtain ⟨-, h2⟩ := hF u hr hu
    have := bytesE_fieldB (encV u.ctx) [] (by have := encV_len u.ctx; omega)
    rw [List.append_nil] at this
    rw [h2]; exact ⟨rfl, this⟩
  have hI := bytesE_inv (xs := u7.xs)
  have hJ := bytesE_err (e := u7.e) (xs := u7.xs)
  have hK := bytesE_len u7.e u7.xs
  repeat' (first | ((first | refine WL.p rfl ?_ | refine WL.u ?_ | refine WL.g rfl rfl ?_ | refine WL.gu rfl ?_); first | (refine opk 1 rfl ?_; (refine ost_H (A := rdr _ _ _ _ _ _) H rfl (by (exact ixQ)) (fun HO => rd_Bytes _ _ _ _ _ _ _ HO hr2 (by omega)) rfl ?_; clear H; rintro vk wk hfk Lk ⟨a3, c3, a4, c4, rfl, rfl, hr5, rfl⟩ hle H; simp only [List.cons_append, List.nil_append, List.eraseIdx_cons_zero, List.eraseIdx_cons_succ] at H)) | refine pvQ ?_ | (refine opk 3 rfl ?_; (refine ost_cmp rfl rfl rfl rfl (fun hc => ?_) (fun hc => ?_) <;> (simp only [cmpP] at hc; try exact prIQ))) | (refine opk 4 rfl ?_; (refine ost_cmp rfl rfl rfl rfl (fun hc => ?_) (fun hc => ?_) <;> (simp only [cmpP] at hc; try exact prIQ))) | (refine opk 8 rfl ?_; first | (refine ost_store1 H rfl rfl vlQ gvQ ixQ (by first | decide | (simp; omega) | (simp; done) | omega) ?_; clear H; intro wk H; simp only [List.set_cons_zero, List.set_cons_succ, Nat.reduceAdd] at H) | (refine ost_storeW H rfl rfl rfl rfl lQ ixQ lQ okQ ?_; clear H; intro wk H; simp only [List.set_cons_zero, List.set_cons_succ, Nat.reduceAdd] at H)) | (refine opk 9 rfl ?_; first | (refine ost_boxq H rfl ?_; clear H; intro bk wk H) | (refine ost_allocA H rfl ?_; clear H; intro bk wk H))) | refine Wc.seq ?_ | refine then_n ?_ | refine WL.nil ?_ | refine Wc.region ?_ | refine Wc.block ?_ | refine then_r ?_ | refine then_e ?_ | refine inb_e rfl ?_ | refine inb_o rfl ?_ | refine inb_n ?_ | refine inb_r ?_ | refine Wc.skip ?_ | refine Wc.exit ?_ | refine Wc.ret ?_ | refine Wc.cond_true rfl ?_ | refine Wc.cond_false rfl ?_ | refine WL.skp rfl rfl ?_ | refine WL.sku rfl ?_)
  · refine fn_ret2 (v2 := .int _ _) rfl (rv_cellA rfl rfl H.bI lQ) rfl ⟨no5 fun u hr hu => ?_, H.fr⟩
    rw [(hB u hr hu).2] at hc; exact hc rfl
  · obtain ⟨a6, c6, h6, e6, hle6, hr6, H⟩ := H.freeze8
    cases e6
    have h9 : (bytesE u7.e u7.xs).2.1 = 0 := Classical.not_not.1 hc
    have he0 := hJ h9
    have hI : u7.xs = fieldB (bytesE u7.e u7.xs).1 ++ (bytesE u7.e u7.xs).2.2.2 := by
      rw [he0] at h9 ⊢; exact hI h9
    cases hbad : u7.bad with
    | true =>
      repeat' (first | ((first | refine WL.p rfl ?_ | refine WL.u ?_ | refine WL.g rfl rfl ?_ | refine WL.gu rfl ?_); first | refine pvQ ?_ | (refine opk 3 rfl ?_; (refine ost_cmp rfl rfl rfl rfl (fun hc => ?_) (fun hc => ?_) <;> (simp only [cmpP] at hc; try exact prIQ))) | (refine opk 4 rfl ?_; (refine ost_cmp rfl rfl rfl rfl (fun hc => ?_) (fun hc => ?_) <;> (simp only [cmpP] at hc; try exact prIQ))) | (refine opk 8 rfl ?_; first | (refine ost_store1 H rfl rfl vlQ gvQ ixQ (by first | decide | (simp; omega) | (simp; done) | omega) ?_; clear H; intro wk H; simp only [List.set_cons_zero, List.set_cons_succ, Nat.reduceAdd] at H) | (refine ost_storeW H rfl rfl rfl rfl lQ ixQ lQ okQ ?_; clear H; intro wk H; simp only [List.set_cons_zero, List.set_cons_succ, Nat.reduceAdd] at H)) | (refine opk 9 rfl ?_; first | (refine ost_boxq H rfl ?_; clear H; intro bk wk H) | (refine ost_allocA H rfl ?_; clear H; intro bk wk H))) | refine Wc.seq ?_ | refine then_n ?_ | refine WL.nil ?_ | refine Wc.region ?_ | refine Wc.block ?_ | refine then_r ?_ | refine then_e ?_ | refine inb_e rfl ?_ | refine inb_o rfl ?_ | refine inb_n ?_ | refine inb_r ?_ | refine Wc.skip ?_ | refine Wc.exit ?_ | refine Wc.ret ?_ | refine Wc.cond_true rfl ?_ | refine Wc.cond_false rfl ?_ | refine WL.skp rfl rfl ?_ | refine WL.sku rfl ?_)
      refine fn_ret2 (v2 := .int _ _) rfl (rv_cellA rfl rfl H.bI lQ) rfl ⟨no5 fun u hr hu => ?_, H.fr⟩
      rw [(hB u hr hu).1] at hbad; cases hbad
    | false =>
      have lo := fun v => cOp_len (opN f v)
      repeat' (first | ((first | refine WL.p rfl ?_ | refine WL.u ?_ | refine WL.g rfl rfl ?_ | refine WL.gu rfl ?_); first | (refine opk 1 rfl ?_; (refine ost_VB H rfl (rd_Done _ _ _ _ _ _ H.bI) rfl ?_ ?_ <;> (intro hc; (try (first | exact (bcon hc ‹_›).elim | exact (bcon ‹_› hc).elim)); try (clear H; intro wk H)))) | refine pvQ ?_ | (refine opk 3 rfl ?_; (refine ost_cmp rfl rfl rfl rfl (fun hc => ?_) (fun hc => ?_) <;> (simp only [cmpP] at hc; try exact prIQ))) | (refine opk 4 rfl ?_; (refine ost_cmp rfl rfl rfl rfl (fun hc => ?_) (fun hc => ?_) <;> (simp only [cmpP] at hc; try exact prIQ))) | (refine opk 8 rfl ?_; first | (refine ost_store1 H rfl rfl vlQ gvQ ixQ (by first | decide | (simp; omega) | (simp; done) | omega) ?_; clear H; intro wk H; simp only [List.set_cons_zero, List.set_cons_succ, Nat.reduceAdd] at H) | (refine ost_storeW H rfl rfl rfl rfl lQ ixQ lQ okQ ?_; clear H; intro wk H; simp only [List.set_cons_zero, List.set_cons_succ, Nat.reduceAdd] at H)) | (refine opk 9 rfl ?_; first | (refine ost_boxq H rfl ?_; clear H; intro bk wk H) | (refine ost_allocA H rfl ?_; clear H; intro bk wk H))) | refine Wc.seq ?_ | refine then_n ?_ | refine WL.nil ?_ | refine Wc.region ?_ | refine Wc.block ?_ | refine then_r ?_ | refine then_e ?_ | refine inb_e rfl ?_ | refine inb_o rfl ?_ | refine inb_n ?_ | refine inb_r ?_ | refine Wc.skip ?_ | refine Wc.exit ?_ | refine Wc.ret ?_ | refine Wc.cond_true rfl ?_ | refine Wc.cond_false rfl ?_ | refine WL.skp rfl rfl ?_ | refine WL.sku rfl ?_)
      · have hd : (bytesE u7.e u7.xs).2.2.1 = 0 ∧ (bytesE u7.e u7.xs).2.2.2 = [] := by
          simp only [Bool.and_eq_true, decide_eq_true_eq, List.length_eq_zero_iff] at hc; exact hc
        rw [hd.2, List.append_nil] at hI
        have hY : ∀ u, rightO u 16 = true → encO u = b → (bytesE u7.e u7.xs).1 = encV u.ctx := fun u hr hu => by rw [(hB u hr hu).2]
        generalize hys : (bytesE u7.e u7.xs).1 = ys
        rw [hys] at hI hY hK hr6
        have hD := decV_spec ys
        have hE : ∀ u, rightO u 16 = true → encO u = b → decV ys = (u.ctx, 0) := fun u hr hu => by rw [hY u hr hu]; exact decV_enc _
        have hv := vec_Decode h6 a3 c3 ys
        generalize hDD : decV ys = D
        rw [hDD] at hD hv
        simp only [hDD] at hE
        repeat' (first | ((first | refine WL.p rfl ?_ | refine WL.u ?_ | refine WL.g rfl rfl ?_ | refine WL.gu rfl ?_); first | (refine opk 1 rfl ?_; first | (refine ost_V H rfl (hv _ H.sat hr6 (by omega)) rfl ?_; clear H; intro wk H) | (refine ost_VB H rfl (op_Right _ _ _) rfl ?_ ?_ <;> (intro hc; (try (first | exact (bcon hc ‹_›).elim | exact (bcon ‹_› hc).elim)); try (clear H; intro wk H)))) | (refine opk 8 rfl ?_; (refine ost_storeA (vs := cV D.1) (l := cOp (opN f fun _ => 0)) H rfl rfl rfl (cV_one _) (cV_len _) idx2 (by rw [cV_len, cOp_len]; omega) ?_; clear H; intro wk H; simp only [List.set_cons_zero, List.set_cons_succ] at H; rw [cOp_put] at H)) | refine pvQ ?_ | (refine opk 3 rfl ?_; (refine ost_cmp rfl rfl rfl rfl (fun hc => ?_) (fun hc => ?_) <;> (simp only [cmpP] at hc; try exact prIQ))) | (refine opk 4 rfl ?_; (refine ost_cmp rfl rfl rfl rfl (fun hc => ?_) (fun hc => ?_) <;> (simp only [cmpP] at hc; try exact prIQ))) | (refine opk 8 rfl ?_; first | (refine ost_store1 H rfl rfl vlQ gvQ ixQ (by first | decide | (simp; omega) | (simp; done) | omega) ?_; clear H; intro wk H; simp only [List.set_cons_zero, List.set_cons_succ, Nat.reduceAdd] at H) | (refine ost_storeW H rfl rfl rfl rfl lQ ixQ lQ okQ ?_; clear H; intro wk H; simp only [List.set_cons_zero, List.set_cons_succ, Nat.reduceAdd] at H)) | (refine opk 9 rfl ?_; first | (refine ost_boxq H rfl ?_; clear H; intro bk wk H) | (refine ost_allocA H rfl ?_; clear H; intro bk wk H))) | refine Wc.seq ?_ | refine then_n ?_ | refine WL.nil ?_ | refine Wc.region ?_ | refine Wc.block ?_ | refine then_r ?_ | refine then_e ?_ | refine inb_e rfl ?_ | refine inb_o rfl ?_ | refine inb_n ?_ | refine inb_r ?_ | refine Wc.skip ?_ | refine Wc.exit ?_ | refine Wc.ret ?_ | refine Wc.cond_true rfl ?_ | refine Wc.cond_false rfl ?_ | refine WL.skp rfl rfl ?_ | refine WL.sku rfl ?_)
        · refine fn_ret2 (v2 := .int _ _) rfl (rv_cellA rfl rfl H.bI lQ) rfl ⟨no5 fun u hr hu => ?_, H.fr⟩
          have := hE u hr hu
          rw [this] at hc; exact hc rfl
        · have hc : rightO (opN f D.1) 16 = true := hc
          have hD2 : D.2 = 0 := Classical.not_not.1 ‹_›
          refine fn_ret2 (v2 := .int _ _) rfl (rv_cellA rfl rfl H.bI lQ) rfl ⟨decO_fin (.inl ⟨rfl, hc, hS D.1 hbad he0 ?_⟩) rfl, H.fr⟩
          rcases hD with ⟨-, h⟩ | ⟨h, -⟩
          · rw [h, hI]
          · rw [hD2] at h; exact absurd h (by decide)
        · refine fn_ret2 (v2 := .int _ _) rfl (rv_cellA rfl rfl H.bI lQ) rfl ⟨no5 fun u hr hu => ?_, H.fr⟩
          have hc : rightO (opN f D.1) 16 = false := hc
          have h1 := hE u hr hu
          have h2 := (hF u hr hu).1 D.1
          rw [h2, h1] at hc
          rw [show ({ u with ctx := (u.ctx, (0 : Int)).1 } : OpT) = u from rfl, hr] at hc
          cases hc
      · refine fn_ret2 (v2 := .int _ _) rfl (rv_cellA rfl rfl H.bI lQ) rfl ⟨no5 fun u hr hu => ?_, H.fr⟩
        rw [(hB u hr hu).2] at hc; simp at hc
end Go.Tg
