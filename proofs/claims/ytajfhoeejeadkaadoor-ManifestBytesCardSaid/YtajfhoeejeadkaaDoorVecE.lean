/- Contracts of Go functions that the laws reach: what each call answers and leaves in memory, for all arguments within the bounds that each theorem names. -/
import Derived.Test.YtajfhoeejeadkaaDoorInst
import Derived.Test.YtajfhoeejeadkaaDoorAuto
import Derived.Test.YtajfhoeejeadkaaDoorC3
import Derived.Test.YtajfhoeejeadkaaDoorQ2
import Derived.Test.YtajfhoeejeadkaaDoorQ5
import Derived.Test.YtajfhoeejeadkaaDoorVec3
set_option linter.unusedVariables false
set_option linter.unusedSimpArgs false
set_option maxRecDepth 100000
set_option maxHeartbeats 4000000
namespace Go.Tg
open Go Go.Proofs
open Classical in
noncomputable def decV (b : List UInt8) : V16 × Int := if h : ∃ u, encV u = b then (h.choose, 0) else (fun _ => 0, 5)
theorem decV_spec (b : List UInt8) : DecV b (decV b).1 (decV b).2 := by
  unfold decV
  split
  · rename_i h; exact .inl ⟨rfl, h.choose_spec⟩
  · rename_i h; exact .inr ⟨rfl, rfl, fun u hu => h ⟨u, hu⟩⟩
theorem decV_fin {b : List UInt8} {x : V16} {e : Int} {l : List Value} (h : DecV b x e) (hl : l = cV x) : Value.tuple #[.agg l.toArray, .int .i64 e] = .tuple #[.agg (cV (decV b).1).toArray, .int .i64 (decV b).2] := by
  obtain ⟨h1, h2⟩ := h.unique (decV_spec b)
  rw [hl, h1, h2]
theorem decV_enc (v : V16) : decV (encV v) = (v, 0) := by
  obtain ⟨h1, h2⟩ := (decV_spec (encV v)).unique (.inl ⟨rfl, rfl⟩ : DecV (encV v) v 0)
  exact Prod.ext h1 h2
theorem setV_tail {x : V16} {q : Nat} (hq : q < 16) (y : UInt32) : atV (fun i => if i.val = q then y else x i) q = y := by rw [atV_lt _ hq]; simp
theorem setV_other {x : V16} {q i : Nat} (hi : i ≠ q) (y : UInt32) : atV (fun i => if i.val = q then y else x i) i = atV x i := by
  by_cases h : i < 16
  · rw [atV_lt _ h, atV_lt _ h]; simp [hi]
  · simp [atV, h]
theorem u32_of {y : Nat} (h : y < 4294967296) : Value.int .u32 (y : Int) = u32 (UInt32.ofNat y) := by unfold u32; simp; omega
theorem vec_Decode (h0 : FH) (a : Option Addr) (c : Nat) (b : List UInt8) (w : World) (hs : Sat h0 w) (hr : BS h0 a c b) (hb : b.length ≤ 1000000) :
    SpecV Tryd.prog 96 #[.slice a b.length c] w (.tuple #[.agg (cV (decV b).1).toArray, .int .i64 (decV b).2]) := by
  have H := St.start hs
  unfold SpecV
  refine calls_of Tryd.func96 rfl Tryd.ntmps96 (by simp) ?_
  repeat' (first | ((first | refine WL.p rfl ?_ | refine WL.u ?_ | refine WL.g rfl rfl ?_ | refine WL.gu rfl ?_); first | refine pvQ ?_ | (refine opk 3 rfl ?_; (refine ost_cmp rfl rfl rfl rfl (fun hc => ?_) (fun hc => ?_) <;> (simp only [cmpP] at hc; try exact prIQ))) | (refine opk 4 rfl ?_; (refine ost_cmp rfl rfl rfl rfl (fun hc => ?_) (fun hc => ?_) <;> (simp only [cmpP] at hc; try exact prIQ))) | (refine opk 8 rfl ?_; first | (refine ost_store1 H rfl rfl vlQ gvQ ixQ (by first | decide | (simp; omega) | (simp; done) | omega) ?_; clear H; intro wk H; simp only [List.set_cons_zero, List.set_cons_succ, Nat.reduceAdd] at H) | (refine ost_storeW H rfl rfl rfl rfl lQ ixQ lQ okQ ?_; clear H; intro wk H; simp only [List.set_cons_zero, List.set_cons_succ, Nat.reduceAdd] at H)) | (refine opk 9 rfl ?_; (refine ost_allocA H rfl ?_; clear H; intro bk wk H))) | refine Wc.seq ?_ | refine then_n ?_ | refine WL.nil ?_ | refine Wc.region ?_ | refine Wc.block ?_ | refine then_r ?_ | refine then_e ?_ | refine inb_e rfl ?_ | refine inb_o rfl ?_ | refine inb_n ?_ | refine inb_r ?_ | refine Wc.skip ?_ | refine Wc.exit ?_ | refine Wc.ret ?_ | refine Wc.cond_true rfl ?_ | refine Wc.cond_false rfl ?_ | refine WL.skp rfl rfl ?_ | refine WL.sku rfl ?_)
  generalize bk = b2 at H ⊢
  have z16 : (List.replicate 16 (Value.int .u32 0)).length = 16 := by simp
  have hlt0 := numE_lt 0 b
  -- refused
  have no5 : (∀ u, encV u ≠ b) → Value.tuple #[.agg (List.replicate 16 (Value.int .u32 0)).toArray, .int .i64 5] = .tuple #[.agg (cV (decV b).1).toArray, .int .i64 (decV b).2] := fun hu => decV_fin (.inr ⟨rfl, rfl, hu⟩) cV_zero.symm
  by_cases hn0 : (numE 0 b).2.1 = 0
  · by_cases hn : (numE 0 b).1 ≤ 16
    · have hb0 := numE_inv hn0
      have hz := numE_ok hn0
      repeat' (first | ((first | refine WL.p rfl ?_ | refine WL.u ?_ | refine WL.g rfl rfl ?_ | refine WL.gu rfl ?_); first | (refine opk 1 rfl ?_; first | (refine ost_Sk H rfl (pack_Read _ _ _ _ _ H.sat hr (by omega)) rfl ?_; clear H; rintro vk wk hfk Lk ⟨b1, a1, c1, rfl, hr1, rfl⟩ hle H; simp only [List.cons_append, List.nil_append] at H) | (refine ost_H (A := rdr _ _ _ _ _ _) H rfl (by (exact ixQ)) (fun HO => rd_Num _ _ _ _ _ _ _ HO hr1) rfl ?_; clear H; rintro vk wk hfk Lk ⟨rfl, rfl, a2, c2, hr2, rfl⟩ hle H; simp only [List.cons_append, List.nil_append, List.eraseIdx_cons_zero, List.eraseIdx_cons_succ] at H)) | refine pvQ ?_ | (refine opk 3 rfl ?_; (refine ost_cmp rfl rfl rfl rfl (fun hc => ?_) (fun hc => ?_) <;> (simp only [cmpP] at hc; try exact prIQ))) | (refine opk 4 rfl ?_; (refine ost_cmp rfl rfl rfl rfl (fun hc => ?_) (fun hc => ?_) <;> (simp only [cmpP] at hc; try exact prIQ))) | (refine opk 8 rfl ?_; first | (refine ost_store1 H rfl rfl vlQ gvQ ixQ (by first | decide | (simp; omega) | (simp; done) | omega) ?_; clear H; intro wk H; simp only [List.set_cons_zero, List.set_cons_succ, Nat.reduceAdd] at H) | (refine ost_storeW H rfl rfl rfl rfl lQ ixQ lQ okQ ?_; clear H; intro wk H; simp only [List.set_cons_zero, List.set_cons_succ, Nat.reduceAdd] at H)) | (refine opk 9 rfl ?_; (refine ost_allocA H rfl ?_; clear H; intro bk wk H))) | refine Wc.seq ?_ | refine then_n ?_ | refine WL.nil ?_ | refine Wc.region ?_ | refine Wc.block ?_ | refine then_r ?_ | refine then_e ?_ | refine inb_e rfl ?_ | refine inb_o rfl ?_ | refine inb_n ?_ | refine inb_r ?_ | refine Wc.skip ?_ | refine Wc.exit ?_ | refine Wc.ret ?_ | refine Wc.cond_true rfl ?_ | refine Wc.cond_false rfl ?_ | refine WL.skp rfl rfl ?_ | refine WL.sku rfl ?_)
      generalize hE : numE 0 b = E at *
      generalize hfk = h1 at *
      refine Wc.loopE (fun s0 m s w' => ∃ (q : Nat) (e : Int) (xs : List UInt8) (a3 : Option Addr) (c3 : Nat) (x : V16), m = E.1 - q ∧ q ≤ E.1 ∧ Agree [3, 8, 9, 10, 28, 29, 30, 31, 32, 33, 34, 35, 36, 37, 38, 39, 40, 41, 42, 43] s s0 ∧ s 28 = .int .i64 q ∧ BS h1 a3 c3 xs ∧ (∀ i, q ≤ i → i < 16 → (atV x i).toNat = 0) ∧
        (e = 0 → b = encN x E.1 q ++ xs) ∧ (∀ u, encV u = b → topN 16 u = E.1 ∧ e = 0 ∧ xs = tailN u E.1 q ∧ ∀ i, i < q → atV x i = atV u i) ∧
        St w [] h0 h1 [.blk bk (.cells (cV x).toArray 65 (0, 0)), rdr b1 true e a3 xs.length c3, .blk b2 (.cells (List.replicate 16 (Value.int .u32 0)).toArray 65 (0, 0))] w') E.1
        ⟨0, E.2.2.1, E.2.2.2, a2, c2, fun _ => 0, rfl, by omega, Agree.refl _ _, rfl, hr2, fun i _ _ => by simp [atV], fun _ => by rw [encN_zero]; exact hb0, fun u hu => ?_, H⟩ ?_
      · have h3 := numE_putB (topN 16 u) (by have := topN_le 16 u; omega) (tailN u (topN 16 u) 0)
        rw [← encV_tail, hu, hE] at h3
        rw [h3]; exact ⟨rfl, rfl, rfl, fun i hi => absurd hi (by omega)⟩
      clear H hr2
      rintro m s w' ⟨q, e, xs, a3, c3, x, rfl, hq, hA, e1, hr3, hx0, hA1, hB, H⟩
      obtain ⟨j, rfl⟩ := hA.env1 e1
      clear hA e1
      by_cases hlt : q < E.1
      · have lx := cV_len x
        have hy := numE_lt e xs
        have hBq : ∀ u, encV u = b → numE e xs = ((atV u q).toNat, 0, 0, tailN u E.1 (q + 1)) := fun u hu => by
          obtain ⟨_, rfl, h4, _⟩ := hB u hu
          rw [h4, tailN_step hlt, numE_putB _ (atV_b _ _)]
        generalize hy9 : numE e xs = Y at *
        by_cases hbig : 4294967295 < Y.1
        · repeat' (first | ((first | refine WL.p rfl ?_ | refine WL.u ?_ | refine WL.g rfl rfl ?_ | refine WL.gu rfl ?_); first | (refine opk 1 rfl ?_; (refine ost_H (A := rdr _ _ _ _ _ _) H rfl (by (exact ixQ)) (fun HO => hy9 ▸ rd_Num _ _ _ _ _ _ _ HO hr3) rfl ?_; clear H; rintro vk wk hfk Lk ⟨rfl, rfl, a4, c4, hr4, rfl⟩ hle H; simp only [List.cons_append, List.nil_append, List.eraseIdx_cons_zero, List.eraseIdx_cons_succ] at H)) | refine pvQ ?_ | (refine opk 3 rfl ?_; (refine ost_cmp rfl rfl rfl rfl (fun hc => ?_) (fun hc => ?_) <;> (simp only [cmpP] at hc; try exact prIQ))) | (refine opk 4 rfl ?_; (refine ost_cmp rfl rfl rfl rfl (fun hc => ?_) (fun hc => ?_) <;> (simp only [cmpP] at hc; try exact prIQ))) | (refine opk 8 rfl ?_; first | (refine ost_store1 H rfl rfl vlQ gvQ ixQ (by first | decide | (simp; omega) | (simp; done) | omega) ?_; clear H; intro wk H; simp only [List.set_cons_zero, List.set_cons_succ, Nat.reduceAdd] at H) | (refine ost_storeW H rfl rfl rfl rfl lQ ixQ lQ okQ ?_; clear H; intro wk H; simp only [List.set_cons_zero, List.set_cons_succ, Nat.reduceAdd] at H)) | (refine opk 9 rfl ?_; (refine ost_allocA H rfl ?_; clear H; intro bk wk H))) | refine Wc.seq ?_ | refine then_n ?_ | refine WL.nil ?_ | refine Wc.region ?_ | refine Wc.block ?_ | refine then_r ?_ | refine then_e ?_ | refine inb_e rfl ?_ | refine inb_o rfl ?_ | refine inb_n ?_ | refine inb_r ?_ | refine Wc.skip ?_ | refine Wc.exit ?_ | refine Wc.ret ?_ | refine Wc.cond_true rfl ?_ | refine Wc.cond_false rfl ?_ | refine WL.skp rfl rfl ?_ | refine WL.sku rfl ?_)
          refine fn_ret2 (v2 := .int _ _) rfl (rv_cellA rfl rfl H.bI lQ) rfl ⟨no5 fun u hu => ?_, H.fr⟩
          have := hBq u hu
          have h9 := (atV u q).toNat_lt
          rw [this] at hbig; simp at hbig; omega
        · repeat' (first | ((first | refine WL.p rfl ?_ | refine WL.u ?_ | refine WL.g rfl rfl ?_ | refine WL.gu rfl ?_); first | (refine opk 1 rfl ?_; (refine ost_H (A := rdr _ _ _ _ _ _) H rfl (by (exact ixQ)) (fun HO => hy9 ▸ rd_Num _ _ _ _ _ _ _ HO hr3) rfl ?_; clear H; rintro vk wk hfk Lk ⟨rfl, rfl, a4, c4, hr4, rfl⟩ hle H; simp only [List.cons_append, List.nil_append, List.eraseIdx_cons_zero, List.eraseIdx_cons_succ] at H)) | refine pvQ ?_ | (refine opk 3 rfl ?_; (refine ost_cmp rfl rfl rfl rfl (fun hc => ?_) (fun hc => ?_) <;> (simp only [cmpP] at hc; try exact prIQ))) | (refine opk 4 rfl ?_; (refine ost_cmp rfl rfl rfl rfl (fun hc => ?_) (fun hc => ?_) <;> (simp only [cmpP] at hc; try exact prIQ))) | (refine opk 8 rfl ?_; first | (refine ost_store1 H rfl rfl vlQ gvQ ixQ (by first | decide | (simp; omega) | (simp; done) | omega) ?_; clear H; intro wk H; simp only [List.set_cons_zero, List.set_cons_succ, Nat.reduceAdd] at H) | (refine ost_storeW H rfl rfl rfl rfl lQ ixQ lQ okQ ?_; clear H; intro wk H; simp only [List.set_cons_zero, List.set_cons_succ, Nat.reduceAdd] at H)) | (refine opk 9 rfl ?_; (refine ost_allocA H rfl ?_; clear H; intro bk wk H))) | refine Wc.seq ?_ | refine then_n ?_ | refine WL.nil ?_ | refine Wc.region ?_ | refine Wc.block ?_ | refine then_r ?_ | refine then_e ?_ | refine inb_e rfl ?_ | refine inb_o rfl ?_ | refine inb_n ?_ | refine inb_r ?_ | refine Wc.skip ?_ | refine Wc.exit ?_ | refine Wc.ret ?_ | refine Wc.cond_true rfl ?_ | refine Wc.cond_false rfl ?_ | refine WL.skp rfl rfl ?_ | refine WL.sku rfl ?_)
          have hq16 : q < 16 := by omega
          rw [u32_of (by omega), show 0 + (q : Int).toNat * 1 = q by omega, cV_set x q hq16] at H
          refine ⟨E.1 - (q + 1), by omega, q + 1, Y.2.2.1, Y.2.2.2, a4, c4, fun i => if i.val = q then UInt32.ofNat Y.1 else x i, rfl, by omega, by (repeat' (first | exact Agree.refl _ _ | exact Agree.havoc | refine Agree.upd rfl ?_ | refine Agree.hav2 rfl ?_)), rfl, hr4, fun i h5 h6 => ?_, fun he => ?_, fun u hu => ?_, H.front 1 rfl⟩
          · rw [setV_other (by omega)]; exact hx0 i (by omega) h6
          · have he0 : e = 0 := Classical.byContradiction fun hne => by
              rw [numE_err hne] at hy9
              rw [← hy9] at he; exact hne he
            subst he0
            have hY0 : Y.2.1 = 0 := Classical.byContradiction fun hne => by
              rw [← hy9] at hne
              have := (numE_err2 hne).1
              rw [hy9] at this; exact this he
            have h7 := numE_inv (xs := xs) (by rw [hy9]; exact hY0)
            rw [hy9] at h7
            rw [encN_succ, setV_tail hq16, show (UInt32.ofNat Y.1).toNat = Y.1 by simp; omega, encN_congr (v := x) (fun i hi => setV_other (by omega) _), List.append_assoc, ← h7]
            exact hA1 rfl
          · obtain ⟨h5, h6, h7, h8⟩ := hB u hu
            have h9 := hBq u hu
            rw [h9]
            refine ⟨h5, rfl, rfl, fun i hi => ?_⟩
            by_cases hiq : i = q
            · subst hiq; rw [setV_tail hq16]; simp
            · rw [setV_other hiq]; exact h8 i (by omega)
      · obtain rfl : q = E.1 := by omega
        have lx := cV_len x
        have hend : ∀ u, encV u = b → e = 0 ∧ xs.length = 0 ∧ (0 < E.1 → (atV x (E.1 - 1)).toNat ≠ 0) := fun u hu => by
          obtain ⟨h5, h6, h7, h8⟩ := hB u hu
          rw [tailN_end] at h7
          refine ⟨h6, by rw [h7]; rfl, fun hp => ?_⟩
          rw [h8 _ (by omega), ← h5]
          exact topN_last 16 u (by omega)
        have hsuc : e = 0 → xs.length = 0 → (E.1 = 0 ∨ (atV x (E.1 - 1)).toNat ≠ 0) → encV x = b := fun h5 h6 h7 => by
          have h8 := hA1 h5
          rw [List.eq_nil_of_length_eq_zero h6, List.append_nil] at h8
          rw [encV, topN_of 16 hn hx0 h7, h8]
        have hd : (decide (e = 0) && decide (xs.length = 0)) = true → e = 0 ∧ xs.length = 0 := by simp
        by_cases hp : 0 < E.1
        · have gn : (cV x)[0 + ((E.1 : Int) - 1).toNat * 1]? = some (.int .u32 (atV x (E.1 - 1)).toNat) := by
            rw [show 0 + ((E.1 : Int) - 1).toNat * 1 = E.1 - 1 by omega]; exact atV_lt' x (by omega)
          repeat' (first | ((first | refine WL.p rfl ?_ | refine WL.u ?_ | refine WL.g rfl rfl ?_ | refine WL.gu rfl ?_); first | (refine opk 1 rfl ?_; (refine ost_VB H rfl (rd_Done _ _ _ _ _ _ H.bI) rfl ?_ ?_ <;> (intro hc; (try (first | exact (bcon hc ‹_›).elim | exact (bcon ‹_› hc).elim)); try (clear H; intro wk H)))) | refine pvQ ?_ | (refine opk 3 rfl ?_; (refine ost_cmp rfl rfl rfl rfl (fun hc => ?_) (fun hc => ?_) <;> (simp only [cmpP] at hc; try exact prIQ))) | (refine opk 4 rfl ?_; (refine ost_cmp rfl rfl rfl rfl (fun hc => ?_) (fun hc => ?_) <;> (simp only [cmpP] at hc; try exact prIQ))) | (refine opk 8 rfl ?_; first | (refine ost_store1 H rfl rfl vlQ gvQ ixQ (by first | decide | (simp; omega) | (simp; done) | omega) ?_; clear H; intro wk H; simp only [List.set_cons_zero, List.set_cons_succ, Nat.reduceAdd] at H) | (refine ost_storeW H rfl rfl rfl rfl lQ ixQ lQ okQ ?_; clear H; intro wk H; simp only [List.set_cons_zero, List.set_cons_succ, Nat.reduceAdd] at H)) | (refine opk 9 rfl ?_; (refine ost_allocA H rfl ?_; clear H; intro bk wk H))) | refine Wc.seq ?_ | refine then_n ?_ | refine WL.nil ?_ | refine Wc.region ?_ | refine Wc.block ?_ | refine then_r ?_ | refine then_e ?_ | refine inb_e rfl ?_ | refine inb_o rfl ?_ | refine inb_n ?_ | refine inb_r ?_ | refine Wc.skip ?_ | refine Wc.exit ?_ | refine Wc.ret ?_ | refine Wc.cond_true rfl ?_ | refine Wc.cond_false rfl ?_ | refine WL.skp rfl rfl ?_ | refine WL.sku rfl ?_)
          all_goals first
            | (refine fn_ret2 (v2 := .int _ _) rfl (rv_cellA rfl rfl H.bI lQ) rfl ⟨no5 fun u hu => ?_, H.fr⟩; obtain ⟨h5, h6, h7⟩ := hend u hu; first | exact h7 hp (by omega) | (rw [h5, h6] at hc; simp at hc))
            | (obtain ⟨h5, h6⟩ := hd ‹_›; exact fn_ret2 (v2 := .int _ _) rfl (rv_cellA rfl rfl H.bI lQ) rfl ⟨decV_fin (.inl ⟨rfl, hsuc h5 h6 (.inr (by omega))⟩) rfl, H.fr⟩)
        · repeat' (first | ((first | refine WL.p rfl ?_ | refine WL.u ?_ | refine WL.g rfl rfl ?_ | refine WL.gu rfl ?_); first | (refine opk 1 rfl ?_; (refine ost_VB H rfl (rd_Done _ _ _ _ _ _ H.bI) rfl ?_ ?_ <;> (intro hc; (try (first | exact (bcon hc ‹_›).elim | exact (bcon ‹_› hc).elim)); try (clear H; intro wk H)))) | refine pvQ ?_ | (refine opk 3 rfl ?_; (refine ost_cmp rfl rfl rfl rfl (fun hc => ?_) (fun hc => ?_) <;> (simp only [cmpP] at hc; try exact prIQ))) | (refine opk 4 rfl ?_; (refine ost_cmp rfl rfl rfl rfl (fun hc => ?_) (fun hc => ?_) <;> (simp only [cmpP] at hc; try exact prIQ))) | (refine opk 8 rfl ?_; first | (refine ost_store1 H rfl rfl vlQ gvQ ixQ (by first | decide | (simp; omega) | (simp; done) | omega) ?_; clear H; intro wk H; simp only [List.set_cons_zero, List.set_cons_succ, Nat.reduceAdd] at H) | (refine ost_storeW H rfl rfl rfl rfl lQ ixQ lQ okQ ?_; clear H; intro wk H; simp only [List.set_cons_zero, List.set_cons_succ, Nat.reduceAdd] at H)) | (refine opk 9 rfl ?_; (refine ost_allocA H rfl ?_; clear H; intro bk wk H))) | refine Wc.seq ?_ | refine then_n ?_ | refine WL.nil ?_ | refine Wc.region ?_ | refine Wc.block ?_ | refine then_r ?_ | refine then_e ?_ | refine inb_e rfl ?_ | refine inb_o rfl ?_ | refine inb_n ?_ | refine inb_r ?_ | refine Wc.skip ?_ | refine Wc.exit ?_ | refine Wc.ret ?_ | refine Wc.cond_true rfl ?_ | refine Wc.cond_false rfl ?_ | refine WL.skp rfl rfl ?_ | refine WL.sku rfl ?_)
          all_goals first
            | (refine fn_ret2 (v2 := .int _ _) rfl (rv_cellA rfl rfl H.bI lQ) rfl ⟨no5 fun u hu => ?_, H.fr⟩; obtain ⟨h5, h6, h7⟩ := hend u hu; rw [h5, h6] at hc; simp at hc)
            | (obtain ⟨h5, h6⟩ := hd ‹_›; exact fn_ret2 (v2 := .int _ _) rfl (rv_cellA rfl rfl H.bI lQ) rfl ⟨decV_fin (.inl ⟨rfl, hsuc h5 h6 (.inl (by omega))⟩) rfl, H.fr⟩)
    · repeat' (first | ((first | refine WL.p rfl ?_ | refine WL.u ?_ | refine WL.g rfl rfl ?_ | refine WL.gu rfl ?_); first | (refine opk 1 rfl ?_; first | (refine ost_Sk H rfl (pack_Read _ _ _ _ _ H.sat hr (by omega)) rfl ?_; clear H; rintro vk wk hfk Lk ⟨b1, a1, c1, rfl, hr1, rfl⟩ hle H; simp only [List.cons_append, List.nil_append] at H) | (refine ost_H (A := rdr _ _ _ _ _ _) H rfl (by (exact ixQ)) (fun HO => rd_Num _ _ _ _ _ _ _ HO hr1) rfl ?_; clear H; rintro vk wk hfk Lk ⟨rfl, rfl, a2, c2, hr2, rfl⟩ hle H; simp only [List.cons_append, List.nil_append, List.eraseIdx_cons_zero, List.eraseIdx_cons_succ] at H)) | refine pvQ ?_ | (refine opk 3 rfl ?_; (refine ost_cmp rfl rfl rfl rfl (fun hc => ?_) (fun hc => ?_) <;> (simp only [cmpP] at hc; try exact prIQ))) | (refine opk 4 rfl ?_; (refine ost_cmp rfl rfl rfl rfl (fun hc => ?_) (fun hc => ?_) <;> (simp only [cmpP] at hc; try exact prIQ))) | (refine opk 8 rfl ?_; first | (refine ost_store1 H rfl rfl vlQ gvQ ixQ (by first | decide | (simp; omega) | (simp; done) | omega) ?_; clear H; intro wk H; simp only [List.set_cons_zero, List.set_cons_succ, Nat.reduceAdd] at H) | (refine ost_storeW H rfl rfl rfl rfl lQ ixQ lQ okQ ?_; clear H; intro wk H; simp only [List.set_cons_zero, List.set_cons_succ, Nat.reduceAdd] at H)) | (refine opk 9 rfl ?_; (refine ost_allocA H rfl ?_; clear H; intro bk wk H))) | refine Wc.seq ?_ | refine then_n ?_ | refine WL.nil ?_ | refine Wc.region ?_ | refine Wc.block ?_ | refine then_r ?_ | refine then_e ?_ | refine inb_e rfl ?_ | refine inb_o rfl ?_ | refine inb_n ?_ | refine inb_r ?_ | refine Wc.skip ?_ | refine Wc.exit ?_ | refine Wc.ret ?_ | refine Wc.cond_true rfl ?_ | refine Wc.cond_false rfl ?_ | refine WL.skp rfl rfl ?_ | refine WL.sku rfl ?_)
      refine fn_ret2 (v2 := .int _ _) rfl (rv_cellA rfl rfl H.bI lQ) rfl ⟨no5 fun u hu => ?_, H.fr⟩
      have h3 := numE_putB (topN 16 u) (by have := topN_le 16 u; omega) (tailN u (topN 16 u) 0)
      rw [← encV_tail, hu] at h3
      rw [h3] at hn
      exact hn (topN_le 16 u)
  · repeat' (first | ((first | refine WL.p rfl ?_ | refine WL.u ?_ | refine WL.g rfl rfl ?_ | refine WL.gu rfl ?_); first | (refine opk 1 rfl ?_; first | (refine ost_Sk H rfl (pack_Read _ _ _ _ _ H.sat hr (by omega)) rfl ?_; clear H; rintro vk wk hfk Lk ⟨b1, a1, c1, rfl, hr1, rfl⟩ hle H; simp only [List.cons_append, List.nil_append] at H) | (refine ost_H (A := rdr _ _ _ _ _ _) H rfl (by (exact ixQ)) (fun HO => rd_Num _ _ _ _ _ _ _ HO hr1) rfl ?_; clear H; rintro vk wk hfk Lk ⟨rfl, rfl, a2, c2, hr2, rfl⟩ hle H; simp only [List.cons_append, List.nil_append, List.eraseIdx_cons_zero, List.eraseIdx_cons_succ] at H)) | refine pvQ ?_ | (refine opk 3 rfl ?_; (refine ost_cmp rfl rfl rfl rfl (fun hc => ?_) (fun hc => ?_) <;> (simp only [cmpP] at hc; try exact prIQ))) | (refine opk 4 rfl ?_; (refine ost_cmp rfl rfl rfl rfl (fun hc => ?_) (fun hc => ?_) <;> (simp only [cmpP] at hc; try exact prIQ))) | (refine opk 8 rfl ?_; first | (refine ost_store1 H rfl rfl vlQ gvQ ixQ (by first | decide | (simp; omega) | (simp; done) | omega) ?_; clear H; intro wk H; simp only [List.set_cons_zero, List.set_cons_succ, Nat.reduceAdd] at H) | (refine ost_storeW H rfl rfl rfl rfl lQ ixQ lQ okQ ?_; clear H; intro wk H; simp only [List.set_cons_zero, List.set_cons_succ, Nat.reduceAdd] at H)) | (refine opk 9 rfl ?_; (refine ost_allocA H rfl ?_; clear H; intro bk wk H))) | refine Wc.seq ?_ | refine then_n ?_ | refine WL.nil ?_ | refine Wc.region ?_ | refine Wc.block ?_ | refine then_r ?_ | refine then_e ?_ | refine inb_e rfl ?_ | refine inb_o rfl ?_ | refine inb_n ?_ | refine inb_r ?_ | refine Wc.skip ?_ | refine Wc.exit ?_ | refine Wc.ret ?_ | refine Wc.cond_true rfl ?_ | refine Wc.cond_false rfl ?_ | refine WL.skp rfl rfl ?_ | refine WL.sku rfl ?_)
    refine fn_ret2 (v2 := .int _ _) rfl (rv_cellA rfl rfl H.bI lQ) rfl ⟨no5 fun u hu => ?_, H.fr⟩
    have h3 := numE_putB (topN 16 u) (by have := topN_le 16 u; omega) (tailN u (topN 16 u) 0)
    rw [← encV_tail, hu] at h3
    rw [h3] at hn0
    exact hn0 rfl
theorem topN_step (k : Nat) (v : V16) : topN (k + 1) v = if (atV v k).toNat = 0 then topN k v else k + 1 := rfl
theorem r4_Encode (h0 : FH) (a : V16) (w : World) (hs : Sat h0 w) :
    Spec Tryd.prog 132 #[.agg (cV a).toArray] w [] h0 (fun v h' L' => ∃ a' c', v = .slice a' (encV a).length c' ∧ h' = h0 ∧ L' = [own8 v 5 (encV a)]) := by
  have H := St.start hs
  have la := cV_len a
  unfold Spec
  refine calls_of Tryd.func132 rfl Tryd.ntmps132 (by simp) ?_
  repeat' (first | ((first | refine WL.p rfl ?_ | refine WL.u ?_); first | refine pvQ ?_ | (refine opk 3 rfl ?_; (refine ost_cmp rfl rfl rfl rfl (fun hc => ?_) (fun hc => ?_) <;> (simp only [cmpP] at hc; try exact prIQ))) | (refine opk 4 rfl ?_; (refine ost_cmp rfl rfl rfl rfl (fun hc => ?_) (fun hc => ?_) <;> (simp only [cmpP] at hc; try exact prIQ))) | (refine opk 9 rfl ?_; (refine ost_boxq H rfl ?_; clear H; intro bk wk H))) | refine Wc.seq ?_ | refine then_n ?_ | refine WL.nil ?_ | refine Wc.region ?_ | refine Wc.block ?_ | refine then_r ?_ | refine then_e ?_ | refine inb_e rfl ?_ | refine inb_o rfl ?_ | refine inb_n ?_ | refine inb_r ?_ | refine Wc.skip ?_ | refine Wc.exit ?_ | refine Wc.ret ?_ | refine Wc.cond_true rfl ?_ | refine Wc.cond_false rfl ?_)
  refine Wc.loopE (fun s0 m s w' => ∃ k : Nat, m = 16 - k ∧ k ≤ 16 ∧ Agree [3, 4, 7, 8, 9, 10, 11, 12, 13, 14, 15, 16] s s0 ∧ s 4 = .int .i64 k ∧ s 3 = .int .i64 (topN k a : Nat) ∧
    St w [] h0 h0 [.blk bk (.cells (cV a).toArray 65 (0, 0))] w') 16 ⟨0, rfl, by omega, Agree.refl _ _, rfl, rfl, H⟩ ?_
  clear H
  rintro m s w' ⟨k, rfl, hk, hA, e1, e2, H⟩
  obtain ⟨j, rfl⟩ := hA.env2 e1 e2
  clear hA e1 e2
  have htl := topN_le k a
  by_cases hlt : k < 16
  · have g1 := cV_at a hlt
    have hs1 := topN_step k a
    repeat' (first | ((first | refine WL.p rfl ?_ | refine WL.u ?_); first | refine pvQ ?_ | (refine opk 3 rfl ?_; (refine ost_cmp rfl rfl rfl rfl (fun hc => ?_) (fun hc => ?_) <;> (simp only [cmpP] at hc; try exact prIQ))) | (refine opk 4 rfl ?_; (refine ost_cmp rfl rfl rfl rfl (fun hc => ?_) (fun hc => ?_) <;> (simp only [cmpP] at hc; try exact prIQ))) | (refine opk 9 rfl ?_; (refine ost_boxq H rfl ?_; clear H; intro bk wk H))) | refine Wc.seq ?_ | refine then_n ?_ | refine WL.nil ?_ | refine Wc.region ?_ | refine Wc.block ?_ | refine then_r ?_ | refine then_e ?_ | refine inb_e rfl ?_ | refine inb_o rfl ?_ | refine inb_n ?_ | refine inb_r ?_ | refine Wc.skip ?_ | refine Wc.exit ?_ | refine Wc.ret ?_ | refine Wc.cond_true rfl ?_ | refine Wc.cond_false rfl ?_)
    · rw [if_neg (by omega)] at hs1
      exact ⟨16 - (k + 1), by omega, k + 1, rfl, by omega, by (repeat' (first | exact Agree.refl _ _ | exact Agree.havoc | refine Agree.upd rfl ?_ | refine Agree.hav2 rfl ?_)), rfl, by rw [hs1]; rfl, H⟩
    · rw [if_pos (by omega)] at hs1
      exact ⟨16 - (k + 1), by omega, k + 1, rfl, by omega, by (repeat' (first | exact Agree.refl _ _ | exact Agree.havoc | refine Agree.upd rfl ?_ | refine Agree.hav2 rfl ?_)), rfl, by rw [hs1]; rfl, H⟩
  · obtain rfl : k = 16 := by omega
    generalize hn : topN 16 a = n at *
    repeat' (first | ((first | refine WL.p rfl ?_ | refine WL.u ?_); first | (refine opk 1 rfl ?_; (refine ost_C H rfl (r2_Put n (by omega) _ _ (sat_full _)) rfl ?_; clear H; rintro vk wk hfk Lk ⟨a1, c1, rfl, _, rfl⟩ H; simp only [List.cons_append, List.nil_append] at H)) | refine pvQ ?_ | (refine opk 3 rfl ?_; (refine ost_cmp rfl rfl rfl rfl (fun hc => ?_) (fun hc => ?_) <;> (simp only [cmpP] at hc; try exact prIQ))) | (refine opk 4 rfl ?_; (refine ost_cmp rfl rfl rfl rfl (fun hc => ?_) (fun hc => ?_) <;> (simp only [cmpP] at hc; try exact prIQ))) | (refine opk 9 rfl ?_; (refine ost_boxq H rfl ?_; clear H; intro bk wk H))) | refine Wc.seq ?_ | refine then_n ?_ | refine WL.nil ?_ | refine Wc.region ?_ | refine Wc.block ?_ | refine then_r ?_ | refine then_e ?_ | refine inb_e rfl ?_ | refine inb_o rfl ?_ | refine inb_n ?_ | refine inb_r ?_ | refine Wc.skip ?_ | refine Wc.exit ?_ | refine Wc.ret ?_ | refine Wc.cond_true rfl ?_ | refine Wc.cond_false rfl ?_)
    rw [← encN_zero a n] at H
    refine Wc.loopE (fun s0 m s w' => ∃ (q : Nat) (a1 : Option Addr) (c1 : Nat), m = n - q ∧ q ≤ n ∧ Agree [5, 6, 20, 21, 22, 23, 24, 25, 26, 27, 28, 29, 30, 31] s s0 ∧ s 6 = .int .i64 q ∧ s 5 = .slice a1 (encN a n q).length c1 ∧
      St w [] h0 h0 [own8 (.slice a1 (encN a n q).length c1) 5 (encN a n q), .blk bk (.cells (cV a).toArray 65 (0, 0))] w') n ⟨0, a1, c1, rfl, by omega, Agree.refl _ _, rfl, by rw [encN_zero]; rfl, H⟩ ?_
    clear H
    rintro m s w' ⟨q, a1, c1, rfl, hq, hA, e1, e2, H⟩
    obtain ⟨j, rfl⟩ := hA.env2 e1 e2
    clear hA e1 e2
    have hL := encN_len a n q
    by_cases hlt : q < n
    · have g1 := cV_at a (i := q) (by omega)
      have g3 := (atV a q).toNat_lt
      have g4 := putB_len (atV a q).toNat
      repeat' (first | ((first | refine WL.p rfl ?_ | refine WL.u ?_); first | (refine opk 1 rfl ?_; first | (refine ost_C H rfl (r2_Put (atV a q).toNat (by omega) _ _ (sat_full _)) rfl ?_; clear H; rintro vk wk hfk Lk ⟨a2, c2, rfl, _, rfl⟩ H; simp only [List.cons_append, List.nil_append] at H) | (refine ost_app8 (xs := encN a n q) H rfl rfl rfl (by (exact ixQ)) (H.own8rd (i := 0) rfl) (by (try simp only [List.length_nil, List.length_append, List.length_cons, List.length_singleton]); omega) ?_; clear H; intro aa ca wk H; simp only [List.set_cons_zero, List.set_cons_succ, List.nil_append] at H)) | refine pvQ ?_ | (refine opk 3 rfl ?_; (refine ost_cmp rfl rfl rfl rfl (fun hc => ?_) (fun hc => ?_) <;> (simp only [cmpP] at hc; try exact prIQ))) | (refine opk 4 rfl ?_; (refine ost_cmp rfl rfl rfl rfl (fun hc => ?_) (fun hc => ?_) <;> (simp only [cmpP] at hc; try exact prIQ))) | (refine opk 9 rfl ?_; (refine ost_boxq H rfl ?_; clear H; intro bk wk H))) | refine Wc.seq ?_ | refine then_n ?_ | refine WL.nil ?_ | refine Wc.region ?_ | refine Wc.block ?_ | refine then_r ?_ | refine then_e ?_ | refine inb_e rfl ?_ | refine inb_o rfl ?_ | refine inb_n ?_ | refine inb_r ?_ | refine Wc.skip ?_ | refine Wc.exit ?_ | refine Wc.ret ?_ | refine Wc.cond_true rfl ?_ | refine Wc.cond_false rfl ?_)
      rw [← encN_succ] at H
      exact ⟨n - (q + 1), by omega, q + 1, aa, ca, rfl, by omega, by (repeat' (first | exact Agree.refl _ _ | exact Agree.havoc | refine Agree.upd rfl ?_ | refine Agree.hav2 rfl ?_)), rfl, by rw [encN_succ]; rfl, H.tl⟩
    · obtain rfl : q = n := by omega
      repeat' (first | ((first | refine WL.p rfl ?_ | refine WL.u ?_); first | refine pvQ ?_ | (refine opk 3 rfl ?_; (refine ost_cmp rfl rfl rfl rfl (fun hc => ?_) (fun hc => ?_) <;> (simp only [cmpP] at hc; try exact prIQ))) | (refine opk 4 rfl ?_; (refine ost_cmp rfl rfl rfl rfl (fun hc => ?_) (fun hc => ?_) <;> (simp only [cmpP] at hc; try exact prIQ))) | (refine opk 9 rfl ?_; (refine ost_boxq H rfl ?_; clear H; intro bk wk H))) | refine Wc.seq ?_ | refine then_n ?_ | refine WL.nil ?_ | refine Wc.region ?_ | refine Wc.block ?_ | refine then_r ?_ | refine then_e ?_ | refine inb_e rfl ?_ | refine inb_o rfl ?_ | refine inb_n ?_ | refine inb_r ?_ | refine Wc.skip ?_ | refine Wc.exit ?_ | refine Wc.ret ?_ | refine Wc.cond_true rfl ?_ | refine Wc.cond_false rfl ?_)
      have he : encV a = encN a q q := by rw [encV, hn]
      rw [he]
      exact fn_ret1 (v := .slice _ _ _) rfl rfl ⟨_, _, H.pick 0 rfl, _, _, rfl, rfl, rfl⟩
end Go.Tg

set_option linter.unusedVariables false
set_option linter.unusedSimpArgs false
set_option maxRecDepth 100000
set_option maxHeartbeats 4000000
namespace Go.Tg
open Go Go.Proofs
def numsO (o : OpT) (k : Nat) : Nat := if k = 0 then o.dot.rep.toNat else if k = 1 then o.dot.seq.toNat else if k = 2 then o.kind.toNat else if k = 3 then o.cart.toNat else if k = 4 then o.item.toNat else if k = 5 then o.qty.toNat else o.tick.toNat
theorem numsO_lt (o : OpT) (k : Nat) : numsO o k < 4294967296 := by
  have h1 := o.dot.rep.toNat_lt; have h2 := o.dot.seq.toNat_lt; have h3 := o.kind.toNat_lt; have h4 := o.cart.toNat_lt; have h5 := o.item.toNat_lt; have h6 := o.qty.toNat_lt; have h7 := o.tick.toNat_lt
  unfold numsO; repeat' split
  all_goals omega
def putsO (o : OpT) (k : Nat) : List UInt8 := ((List.range k).map fun i => putB (numsO o i)).flatten
def encO (o : OpT) : List UInt8 := putsO o 7 ++ fieldB (encV o.ctx)
end Go.Tg

set_option linter.unusedVariables false
set_option linter.unusedSimpArgs false
set_option maxRecDepth 100000
set_option maxHeartbeats 4000000
namespace Go.Tg
open Go Go.Proofs
theorem u32_wrap (y : Nat) : Value.int .u32 (IntKind.u32.wrap y) = u32 (UInt32.ofNat y) := by
  unfold u32; congr 1
theorem r4_Decode (h0 : FH) (a : Option Addr) (c : Nat) (b : List UInt8) (w : World) (hs : Sat h0 w) (hr : BS h0 a c b) (hb : b.length ≤ 1000000) :
    SpecV Tryd.prog 99 #[.slice a b.length c] w (.tuple #[.agg (cV (decV b).1).toArray, .int .i64 (decV b).2]) := by
  have H := St.start hs
  have z16 : (List.replicate 16 (Value.int .u32 0)).length = 16 := by simp
  have hlt0 := numE_lt 0 b
  have no5 : (∀ u, encV u ≠ b) → Value.tuple #[.agg (List.replicate 16 (Value.int .u32 0)).toArray, .int .i64 5] = .tuple #[.agg (cV (decV b).1).toArray, .int .i64 (decV b).2] := fun hu => decV_fin (.inr ⟨rfl, rfl, hu⟩) cV_zero.symm
  unfold SpecV
  refine calls_of Tryd.func99 rfl Tryd.ntmps99 (by simp) ?_
  repeat' (first | ((first | refine WL.p rfl ?_ | refine WL.u ?_ | refine WL.g rfl rfl ?_ | refine WL.gu rfl ?_); first | refine pvQ ?_ | (refine opk 3 rfl ?_; first | (refine ost_cmp rfl rfl rfl rfl (fun hc => ?_) (fun hc => ?_) <;> (simp only [cmpP] at hc; try exact prIQ)) | (refine ost_streqB rfl rfl rfl (fun hc => ?_) (fun hc => ?_) <;> try exact prEQ) | (refine ost_strneB rfl rfl rfl (fun hc => ?_) (fun hc => ?_) <;> try exact prEQ) | (refine ost_streq rfl rfl rfl (fun hc => ?_) (fun hc => ?_) <;> try exact absurd rfl hc) | (refine ost_strne rfl rfl rfl (fun hc => ?_) (fun hc => ?_))) | (refine opk 4 rfl ?_; (refine ost_cmp rfl rfl rfl rfl (fun hc => ?_) (fun hc => ?_) <;> (simp only [cmpP] at hc; try exact prIQ))) | (refine opk 8 rfl ?_; first | (refine ost_store1 H rfl rfl vlQ gvQ ixQ (by first | decide | (simp; omega) | (simp; done) | omega) ?_; clear H; intro wk H; simp only [List.set_cons_zero, List.set_cons_succ, Nat.reduceAdd] at H) | (refine ost_storeW H rfl rfl rfl rfl lQ ixQ lQ okQ ?_; clear H; intro wk H; simp only [List.set_cons_zero, List.set_cons_succ, Nat.reduceAdd] at H)) | (refine opk 9 rfl ?_; (refine ost_allocA H rfl ?_; clear H; intro bk wk H))) | refine Wc.seq ?_ | refine then_n ?_ | refine WL.nil ?_ | refine Wc.region ?_ | refine Wc.block ?_ | refine then_r ?_ | refine then_e ?_ | refine inb_e rfl ?_ | refine inb_o rfl ?_ | refine inb_n ?_ | refine inb_r ?_ | refine Wc.skip ?_ | refine Wc.exit ?_ | refine Wc.ret ?_ | refine Wc.cond_true rfl ?_ | refine Wc.cond_false rfl ?_ | (refine Wc.drawn (id := 13) 5 (by kernel_rfl) ?_) | refine WL.skp rfl rfl ?_ | refine WL.sku rfl ?_ | (refine rgs_nil ?_; intro vs wk hE; replace H := H.ext hE; clear hE) | refine RGs.skp (fun _ => rfl) rfl ?_ | (refine RGs.bq (fun _ => rfl) rfl (by intro vs w hE hP; have H := H.ext hE; first | exact dbQ | fail) (fun hc => ?_) (fun hc => ?_) <;> ((try simp only [cmpP, decide_eq_true_eq, decide_eq_false_iff_not, dcd_iff, dcd_no] at hc); try exact prDQ)) | refine RGs.pq (fun _ => rfl) rfl (by intro vs w hE hP; have H := H.ext hE; first | exact dvQ | fail) ?_)
  rename_i b2 w2
  generalize bk = b4 at H ⊢
  by_cases hn0 : (numE 0 b).2.1 = 0
  · by_cases hn : (numE 0 b).1 ≤ 16
    · have hz := numE_ok hn0
      repeat' (first | ((first | refine WL.p rfl ?_ | refine WL.u ?_ | refine WL.g rfl rfl ?_ | refine WL.gu rfl ?_); first | (refine opk 1 rfl ?_; (refine ost_Sk H rfl (r3_Num _ _ H.sat _ _ _ _ hr) rfl ?_; clear H; rintro vk wk hfk Lk ⟨a2, c2, rfl, rfl, rfl, hr2⟩ hle H; simp only [List.cons_append, List.nil_append] at H)) | refine pvQ ?_ | (refine opk 3 rfl ?_; first | (refine ost_cmp rfl rfl rfl rfl (fun hc => ?_) (fun hc => ?_) <;> (simp only [cmpP] at hc; try exact prIQ)) | (refine ost_streqB rfl rfl rfl (fun hc => ?_) (fun hc => ?_) <;> try exact prEQ) | (refine ost_strneB rfl rfl rfl (fun hc => ?_) (fun hc => ?_) <;> try exact prEQ) | (refine ost_streq rfl rfl rfl (fun hc => ?_) (fun hc => ?_) <;> try exact absurd rfl hc) | (refine ost_strne rfl rfl rfl (fun hc => ?_) (fun hc => ?_))) | (refine opk 4 rfl ?_; (refine ost_cmp rfl rfl rfl rfl (fun hc => ?_) (fun hc => ?_) <;> (simp only [cmpP] at hc; try exact prIQ))) | (refine opk 8 rfl ?_; first | (refine ost_store1 H rfl rfl vlQ gvQ ixQ (by first | decide | (simp; omega) | (simp; done) | omega) ?_; clear H; intro wk H; simp only [List.set_cons_zero, List.set_cons_succ, Nat.reduceAdd] at H) | (refine ost_storeW H rfl rfl rfl rfl lQ ixQ lQ okQ ?_; clear H; intro wk H; simp only [List.set_cons_zero, List.set_cons_succ, Nat.reduceAdd] at H)) | (refine opk 9 rfl ?_; (refine ost_allocA H rfl ?_; clear H; intro bk wk H))) | refine Wc.seq ?_ | refine then_n ?_ | refine WL.nil ?_ | refine Wc.region ?_ | refine Wc.block ?_ | refine then_r ?_ | refine then_e ?_ | refine inb_e rfl ?_ | refine inb_o rfl ?_ | refine inb_n ?_ | refine inb_r ?_ | refine Wc.skip ?_ | refine Wc.exit ?_ | refine Wc.ret ?_ | refine Wc.cond_true rfl ?_ | refine Wc.cond_false rfl ?_ | (refine Wc.drawn (id := 13) 5 (by kernel_rfl) ?_) | refine WL.skp rfl rfl ?_ | refine WL.sku rfl ?_ | (refine rgs_nil ?_; intro vs wk hE; replace H := H.ext hE; clear hE) | refine RGs.skp (fun _ => rfl) rfl ?_ | (refine RGs.bq (fun _ => rfl) rfl (by intro vs w hE hP; have H := H.ext hE; first | exact dbQ | fail) (fun hc => ?_) (fun hc => ?_) <;> ((try simp only [cmpP, decide_eq_true_eq, decide_eq_false_iff_not, dcd_iff, dcd_no] at hc); try exact prDQ)) | refine RGs.pq (fun _ => rfl) rfl (by intro vs w hE hP; have H := H.ext hE; first | exact dvQ | fail) ?_)
      generalize hE : numE 0 b = E at *
      rw [hz] at H
      refine Wc.loopE (fun s0 m s w' => ∃ (q : Nat) (xs : List UInt8) (a3 : Option Addr) (c3 : Nat) (x : V16), m = E.1 - q ∧ q ≤ E.1 ∧ Agree [3, 8, 9, 10, 11, 26, 27, 28, 29, 30, 31, 32, 33, 34, 35, 36, 37, 38, 39, 40, 41, 42, 43, 44, 45] s s0 ∧ s 8 = .int .i64 q ∧ BS hfk a3 c3 xs ∧ (∀ i, q ≤ i → i < 16 → (atV x i).toNat = 0) ∧
        (∀ u, encV u = b → topN 16 u = E.1 ∧ xs = tailN u E.1 q ∧ ∀ i, i < q → atV x i = atV u i) ∧
        St w [] hfk hfk [.blk bk (.cells [.slice a3 xs.length c3, .int .i64 0].toArray 162 (0, 0)), .blk b4 (.cells (cV x).toArray 65 (0, 0)), .blk b2 (.cells (List.replicate 16 (Value.int .u32 0)).toArray 65 (0, 0))] w') E.1
        ⟨0, E.2.2.2, a2, c2, fun _ => 0, rfl, by omega, Agree.refl _ _, rfl, hr2, fun i _ _ => by simp [atV], fun u hu => ?_, H⟩ ?_
      · have h3 := numE_putB (topN 16 u) (by have := topN_le 16 u; omega) (tailN u (topN 16 u) 0)
        rw [← encV_tail, hu, hE] at h3
        rw [h3]; exact ⟨rfl, rfl, fun i hi => absurd hi (by omega)⟩
      clear hr2; repeat clear H
      generalize bk = b5
      rintro m s w' ⟨q, xs, a3, c3, x, rfl, hq, hA, e1, hr3, hx0, hB, H⟩
      obtain ⟨j, rfl⟩ := hA.env1 e1
      clear hA e1
      by_cases hlt : q < E.1
      · have lx := cV_len x
        have hy := numE_lt 0 xs
        have hok : (numE 0 xs).2.1 = 0 → (numE 0 xs).2.2.1 = 0 := numE_ok
        have hBq : ∀ u, encV u = b → numE 0 xs = ((atV u q).toNat, 0, 0, tailN u E.1 (q + 1)) := fun u hu => by
          obtain ⟨_, h4, _⟩ := hB u hu
          rw [h4, tailN_step hlt, numE_putB _ (atV_b _ _)]
        generalize hy9 : numE 0 xs = Y at *
        by_cases hbad : Y.2.1 = 0
        · repeat' (first | ((first | refine WL.p rfl ?_ | refine WL.u ?_ | refine WL.g rfl rfl ?_ | refine WL.gu rfl ?_); first | (refine opk 1 rfl ?_; (refine ost_Sk H rfl (hy9 ▸ r3_Num _ _ H.sat _ _ _ _ hr3) rfl ?_; clear H; rintro vk wk hfk Lk ⟨a4, c4, rfl, rfl, rfl, hr4⟩ hle H; simp only [List.cons_append, List.nil_append] at H)) | refine pvQ ?_ | (refine opk 3 rfl ?_; first | (refine ost_cmp rfl rfl rfl rfl (fun hc => ?_) (fun hc => ?_) <;> (simp only [cmpP] at hc; try exact prIQ)) | (refine ost_streqB rfl rfl rfl (fun hc => ?_) (fun hc => ?_) <;> try exact prEQ) | (refine ost_strneB rfl rfl rfl (fun hc => ?_) (fun hc => ?_) <;> try exact prEQ) | (refine ost_streq rfl rfl rfl (fun hc => ?_) (fun hc => ?_) <;> try exact absurd rfl hc) | (refine ost_strne rfl rfl rfl (fun hc => ?_) (fun hc => ?_))) | (refine opk 4 rfl ?_; (refine ost_cmp rfl rfl rfl rfl (fun hc => ?_) (fun hc => ?_) <;> (simp only [cmpP] at hc; try exact prIQ))) | (refine opk 8 rfl ?_; first | (refine ost_store1 H rfl rfl vlQ gvQ ixQ (by first | decide | (simp; omega) | (simp; done) | omega) ?_; clear H; intro wk H; simp only [List.set_cons_zero, List.set_cons_succ, Nat.reduceAdd] at H) | (refine ost_storeW H rfl rfl rfl rfl lQ ixQ lQ okQ ?_; clear H; intro wk H; simp only [List.set_cons_zero, List.set_cons_succ, Nat.reduceAdd] at H)) | (refine opk 9 rfl ?_; (refine ost_allocA H rfl ?_; clear H; intro bk wk H))) | refine Wc.seq ?_ | refine then_n ?_ | refine WL.nil ?_ | refine Wc.region ?_ | refine Wc.block ?_ | refine then_r ?_ | refine then_e ?_ | refine inb_e rfl ?_ | refine inb_o rfl ?_ | refine inb_n ?_ | refine inb_r ?_ | refine Wc.skip ?_ | refine Wc.exit ?_ | refine Wc.ret ?_ | refine Wc.cond_true rfl ?_ | refine Wc.cond_false rfl ?_ | (refine Wc.drawn (id := 13) 5 (by kernel_rfl) ?_) | refine WL.skp rfl rfl ?_ | refine WL.sku rfl ?_ | (refine rgs_nil ?_; intro vs wk hE; replace H := H.ext hE; clear hE) | refine RGs.skp (fun _ => rfl) rfl ?_ | (refine RGs.bq (fun _ => rfl) rfl (by intro vs w hE hP; have H := H.ext hE; first | exact dbQ | fail) (fun hc => ?_) (fun hc => ?_) <;> ((try simp only [cmpP, decide_eq_true_eq, decide_eq_false_iff_not, dcd_iff, dcd_no] at hc); try exact prDQ)) | refine RGs.pq (fun _ => rfl) rfl (by intro vs w hE hP; have H := H.ext hE; first | exact dvQ | fail) ?_)
          have hq16 : q < 16 := by omega
          rw [u32_wrap, show 0 + (q : Int).toNat * 1 = q by omega, cV_set x q hq16, hok hbad] at H
          refine ⟨E.1 - (q + 1), by omega, q + 1, Y.2.2.2, a4, c4, fun i => if i.val = q then UInt32.ofNat Y.1 else x i, rfl, by omega, by (repeat' (first | exact Agree.refl _ _ | exact Agree.havoc | refine Agree.upd rfl ?_ | refine Agree.hav2 rfl ?_)), rfl, hr4, fun i h5 h6 => ?_, fun u hu => ?_, H.tl⟩
          · rw [setV_other (by omega)]; exact hx0 i (by omega) h6
          · obtain ⟨h5, h7, h8⟩ := hB u hu
            have h9 := hBq u hu
            rw [h9]
            refine ⟨h5, rfl, fun i hi => ?_⟩
            by_cases hiq : i = q
            · subst hiq; rw [setV_tail hq16]; simp
            · rw [setV_other hiq]; exact h8 i (by omega)
        · repeat' (first | ((first | refine WL.p rfl ?_ | refine WL.u ?_ | refine WL.g rfl rfl ?_ | refine WL.gu rfl ?_); first | (refine opk 1 rfl ?_; (refine ost_Sk H rfl (hy9 ▸ r3_Num _ _ H.sat _ _ _ _ hr3) rfl ?_; clear H; rintro vk wk hfk Lk ⟨a4, c4, rfl, rfl, rfl, hr4⟩ hle H; simp only [List.cons_append, List.nil_append] at H)) | refine pvQ ?_ | (refine opk 3 rfl ?_; first | (refine ost_cmp rfl rfl rfl rfl (fun hc => ?_) (fun hc => ?_) <;> (simp only [cmpP] at hc; try exact prIQ)) | (refine ost_streqB rfl rfl rfl (fun hc => ?_) (fun hc => ?_) <;> try exact prEQ) | (refine ost_strneB rfl rfl rfl (fun hc => ?_) (fun hc => ?_) <;> try exact prEQ) | (refine ost_streq rfl rfl rfl (fun hc => ?_) (fun hc => ?_) <;> try exact absurd rfl hc) | (refine ost_strne rfl rfl rfl (fun hc => ?_) (fun hc => ?_))) | (refine opk 4 rfl ?_; (refine ost_cmp rfl rfl rfl rfl (fun hc => ?_) (fun hc => ?_) <;> (simp only [cmpP] at hc; try exact prIQ))) | (refine opk 8 rfl ?_; first | (refine ost_store1 H rfl rfl vlQ gvQ ixQ (by first | decide | (simp; omega) | (simp; done) | omega) ?_; clear H; intro wk H; simp only [List.set_cons_zero, List.set_cons_succ, Nat.reduceAdd] at H) | (refine ost_storeW H rfl rfl rfl rfl lQ ixQ lQ okQ ?_; clear H; intro wk H; simp only [List.set_cons_zero, List.set_cons_succ, Nat.reduceAdd] at H)) | (refine opk 9 rfl ?_; (refine ost_allocA H rfl ?_; clear H; intro bk wk H))) | refine Wc.seq ?_ | refine then_n ?_ | refine WL.nil ?_ | refine Wc.region ?_ | refine Wc.block ?_ | refine then_r ?_ | refine then_e ?_ | refine inb_e rfl ?_ | refine inb_o rfl ?_ | refine inb_n ?_ | refine inb_r ?_ | refine Wc.skip ?_ | refine Wc.exit ?_ | refine Wc.ret ?_ | refine Wc.cond_true rfl ?_ | refine Wc.cond_false rfl ?_ | (refine Wc.drawn (id := 13) 5 (by kernel_rfl) ?_) | refine WL.skp rfl rfl ?_ | refine WL.sku rfl ?_ | (refine rgs_nil ?_; intro vs wk hE; replace H := H.ext hE; clear hE) | refine RGs.skp (fun _ => rfl) rfl ?_ | (refine RGs.bq (fun _ => rfl) rfl (by intro vs w hE hP; have H := H.ext hE; first | exact dbQ | fail) (fun hc => ?_) (fun hc => ?_) <;> ((try simp only [cmpP, decide_eq_true_eq, decide_eq_false_iff_not, dcd_iff, dcd_no] at hc); try exact prDQ)) | refine RGs.pq (fun _ => rfl) rfl (by intro vs w hE hP; have H := H.ext hE; first | exact dvQ | fail) ?_)
          refine fn_ret2 (v2 := .int _ _) rfl (rv_cellA rfl rfl H.bI lQ) rfl ⟨no5 fun u hu => ?_, H.fr⟩
          have := hBq u hu
          rw [this] at hbad; exact hbad rfl
      · obtain rfl : q = E.1 := by omega
        have lx := cV_len x
        repeat' (first | ((first | refine WL.p rfl ?_ | refine WL.u ?_ | refine WL.g rfl rfl ?_ | refine WL.gu rfl ?_); first | refine pvQ ?_ | (refine opk 3 rfl ?_; first | (refine ost_cmp rfl rfl rfl rfl (fun hc => ?_) (fun hc => ?_) <;> (simp only [cmpP] at hc; try exact prIQ)) | (refine ost_streqB rfl rfl rfl (fun hc => ?_) (fun hc => ?_) <;> try exact prEQ) | (refine ost_strneB rfl rfl rfl (fun hc => ?_) (fun hc => ?_) <;> try exact prEQ) | (refine ost_streq rfl rfl rfl (fun hc => ?_) (fun hc => ?_) <;> try exact absurd rfl hc) | (refine ost_strne rfl rfl rfl (fun hc => ?_) (fun hc => ?_))) | (refine opk 4 rfl ?_; (refine ost_cmp rfl rfl rfl rfl (fun hc => ?_) (fun hc => ?_) <;> (simp only [cmpP] at hc; try exact prIQ))) | (refine opk 8 rfl ?_; first | (refine ost_store1 H rfl rfl vlQ gvQ ixQ (by first | decide | (simp; omega) | (simp; done) | omega) ?_; clear H; intro wk H; simp only [List.set_cons_zero, List.set_cons_succ, Nat.reduceAdd] at H) | (refine ost_storeW H rfl rfl rfl rfl lQ ixQ lQ okQ ?_; clear H; intro wk H; simp only [List.set_cons_zero, List.set_cons_succ, Nat.reduceAdd] at H)) | (refine opk 9 rfl ?_; (refine ost_allocA H rfl ?_; clear H; intro bk wk H))) | refine Wc.seq ?_ | refine then_n ?_ | refine WL.nil ?_ | refine Wc.region ?_ | refine Wc.block ?_ | refine then_r ?_ | refine then_e ?_ | refine inb_e rfl ?_ | refine inb_o rfl ?_ | refine inb_n ?_ | refine inb_r ?_ | refine Wc.skip ?_ | refine Wc.exit ?_ | refine Wc.ret ?_ | refine Wc.cond_true rfl ?_ | refine Wc.cond_false rfl ?_ | (refine Wc.drawnB (id := 13) 5 [(1, encV x)] (by kernel_rfl) ?_) | refine WL.skp rfl rfl ?_ | refine WL.sku rfl ?_ | (refine rgs_nil ?_; intro vs wk hE; replace H := H.ext hE; clear hE) | refine RGs.skp (fun _ => rfl) rfl ?_ | (refine RGs.bq (fun _ => rfl) rfl (by intro vs w hE hP; have H := H.ext hE; first | exact dbQ | fail) (fun hc => ?_) (fun hc => ?_) <;> ((try simp only [cmpP, decide_eq_true_eq, decide_eq_false_iff_not, dcd_iff, dcd_no] at hc); try exact prDQ)) | refine RGs.pq (fun _ => rfl) rfl (by intro vs w hE hP; have H := H.ext hE; first | (refine opk 6 rfl ?_; (refine ost_toStrN (xs := b) rfl rfl (by first | rfl | (simp; omega)) (hr.full H) ?_; exact ⟨Fr.refl _ _, rfl⟩)) | (refine ost_toStrV rfl (pf_B hP 1 (by kernel_rfl) rfl rfl) ?_; exact ⟨Fr.refl _ _, rfl⟩) | exact dvQ | fail) ?_ | refine RGs.sq (fun _ => rfl) rfl (by intro vs w hE hP; have H := H.ext hE; first | (refine ost_B rfl (r4_Encode _ x _ (sat_full _)) rfl (fun _ _ _ ⟨_, _, _, _, e⟩ => e) ?_; intro vk wk hX hB; exact ⟨hX, hB⟩) | fail) ?_)
        · refine fn_ret2 (v2 := .int _ _) rfl (rv_cellA rfl rfl H.bI lQ) rfl ⟨no5 fun u hu => ?_, H.fr⟩
          obtain ⟨h5, _, h8⟩ := hB u hu
          have : x = u := V16_ext fun i hi => by
            by_cases h9 : i < E.1
            · rw [h8 i h9]
            · rw [hx0 i (by omega) hi, topN_zero 16 u i (by omega) hi]
          rw [this] at hc; exact hc hu
        · exact fn_ret2 (v2 := .int _ _) rfl (rv_cellA rfl rfl H.bI lQ) rfl ⟨decV_fin (.inl ⟨rfl, hc⟩) rfl, H.fr⟩
    · repeat' (first | ((first | refine WL.p rfl ?_ | refine WL.u ?_ | refine WL.g rfl rfl ?_ | refine WL.gu rfl ?_); first | (refine opk 1 rfl ?_; (refine ost_Sk H rfl (r3_Num _ _ H.sat _ _ _ _ hr) rfl ?_; clear H; rintro vk wk hfk Lk ⟨a2, c2, rfl, rfl, rfl, hr2⟩ hle H; simp only [List.cons_append, List.nil_append] at H)) | refine pvQ ?_ | (refine opk 3 rfl ?_; first | (refine ost_cmp rfl rfl rfl rfl (fun hc => ?_) (fun hc => ?_) <;> (simp only [cmpP] at hc; try exact prIQ)) | (refine ost_streqB rfl rfl rfl (fun hc => ?_) (fun hc => ?_) <;> try exact prEQ) | (refine ost_strneB rfl rfl rfl (fun hc => ?_) (fun hc => ?_) <;> try exact prEQ) | (refine ost_streq rfl rfl rfl (fun hc => ?_) (fun hc => ?_) <;> try exact absurd rfl hc) | (refine ost_strne rfl rfl rfl (fun hc => ?_) (fun hc => ?_))) | (refine opk 4 rfl ?_; (refine ost_cmp rfl rfl rfl rfl (fun hc => ?_) (fun hc => ?_) <;> (simp only [cmpP] at hc; try exact prIQ))) | (refine opk 8 rfl ?_; first | (refine ost_store1 H rfl rfl vlQ gvQ ixQ (by first | decide | (simp; omega) | (simp; done) | omega) ?_; clear H; intro wk H; simp only [List.set_cons_zero, List.set_cons_succ, Nat.reduceAdd] at H) | (refine ost_storeW H rfl rfl rfl rfl lQ ixQ lQ okQ ?_; clear H; intro wk H; simp only [List.set_cons_zero, List.set_cons_succ, Nat.reduceAdd] at H)) | (refine opk 9 rfl ?_; (refine ost_allocA H rfl ?_; clear H; intro bk wk H))) | refine Wc.seq ?_ | refine then_n ?_ | refine WL.nil ?_ | refine Wc.region ?_ | refine Wc.block ?_ | refine then_r ?_ | refine then_e ?_ | refine inb_e rfl ?_ | refine inb_o rfl ?_ | refine inb_n ?_ | refine inb_r ?_ | refine Wc.skip ?_ | refine Wc.exit ?_ | refine Wc.ret ?_ | refine Wc.cond_true rfl ?_ | refine Wc.cond_false rfl ?_ | (refine Wc.drawn (id := 13) 5 (by kernel_rfl) ?_) | refine WL.skp rfl rfl ?_ | refine WL.sku rfl ?_ | (refine rgs_nil ?_; intro vs wk hE; replace H := H.ext hE; clear hE) | refine RGs.skp (fun _ => rfl) rfl ?_ | (refine RGs.bq (fun _ => rfl) rfl (by intro vs w hE hP; have H := H.ext hE; first | exact dbQ | fail) (fun hc => ?_) (fun hc => ?_) <;> ((try simp only [cmpP, decide_eq_true_eq, decide_eq_false_iff_not, dcd_iff, dcd_no] at hc); try exact prDQ)) | refine RGs.pq (fun _ => rfl) rfl (by intro vs w hE hP; have H := H.ext hE; first | exact dvQ | fail) ?_)
      refine fn_ret2 (v2 := .int _ _) rfl (rv_cellA rfl rfl H.bI lQ) rfl ⟨no5 fun u hu => ?_, H.fr⟩
      have h3 := numE_putB (topN 16 u) (by have := topN_le 16 u; omega) (tailN u (topN 16 u) 0)
      rw [← encV_tail, hu] at h3
      rw [h3] at hn
      exact hn (topN_le 16 u)
  · repeat' (first | ((first | refine WL.p rfl ?_ | refine WL.u ?_ | refine WL.g rfl rfl ?_ | refine WL.gu rfl ?_); first | (refine opk 1 rfl ?_; (refine ost_Sk H rfl (r3_Num _ _ H.sat _ _ _ _ hr) rfl ?_; clear H; rintro vk wk hfk Lk ⟨a2, c2, rfl, rfl, rfl, hr2⟩ hle H; simp only [List.cons_append, List.nil_append] at H)) | refine pvQ ?_ | (refine opk 3 rfl ?_; first | (refine ost_cmp rfl rfl rfl rfl (fun hc => ?_) (fun hc => ?_) <;> (simp only [cmpP] at hc; try exact prIQ)) | (refine ost_streqB rfl rfl rfl (fun hc => ?_) (fun hc => ?_) <;> try exact prEQ) | (refine ost_strneB rfl rfl rfl (fun hc => ?_) (fun hc => ?_) <;> try exact prEQ) | (refine ost_streq rfl rfl rfl (fun hc => ?_) (fun hc => ?_) <;> try exact absurd rfl hc) | (refine ost_strne rfl rfl rfl (fun hc => ?_) (fun hc => ?_))) | (refine opk 4 rfl ?_; (refine ost_cmp rfl rfl rfl rfl (fun hc => ?_) (fun hc => ?_) <;> (simp only [cmpP] at hc; try exact prIQ))) | (refine opk 8 rfl ?_; first | (refine ost_store1 H rfl rfl vlQ gvQ ixQ (by first | decide | (simp; omega) | (simp; done) | omega) ?_; clear H; intro wk H; simp only [List.set_cons_zero, List.set_cons_succ, Nat.reduceAdd] at H) | (refine ost_storeW H rfl rfl rfl rfl lQ ixQ lQ okQ ?_; clear H; intro wk H; simp only [List.set_cons_zero, List.set_cons_succ, Nat.reduceAdd] at H)) | (refine opk 9 rfl ?_; (refine ost_allocA H rfl ?_; clear H; intro bk wk H))) | refine Wc.seq ?_ | refine then_n ?_ | refine WL.nil ?_ | refine Wc.region ?_ | refine Wc.block ?_ | refine then_r ?_ | refine then_e ?_ | refine inb_e rfl ?_ | refine inb_o rfl ?_ | refine inb_n ?_ | refine inb_r ?_ | refine Wc.skip ?_ | refine Wc.exit ?_ | refine Wc.ret ?_ | refine Wc.cond_true rfl ?_ | refine Wc.cond_false rfl ?_ | (refine Wc.drawn (id := 13) 5 (by kernel_rfl) ?_) | refine WL.skp rfl rfl ?_ | refine WL.sku rfl ?_ | (refine rgs_nil ?_; intro vs wk hE; replace H := H.ext hE; clear hE) | refine RGs.skp (fun _ => rfl) rfl ?_ | (refine RGs.bq (fun _ => rfl) rfl (by intro vs w hE hP; have H := H.ext hE; first | exact dbQ | fail) (fun hc => ?_) (fun hc => ?_) <;> ((try simp only [cmpP, decide_eq_true_eq, decide_eq_false_iff_not, dcd_iff, dcd_no] at hc); try exact prDQ)) | refine RGs.pq (fun _ => rfl) rfl (by intro vs w hE hP; have H := H.ext hE; first | exact dvQ | fail) ?_)
    refine fn_ret2 (v2 := .int _ _) rfl (rv_cellA rfl rfl H.bI lQ) rfl ⟨no5 fun u hu => ?_, H.fr⟩
    have h3 := numE_putB (topN 16 u) (by have := topN_le 16 u; omega) (tailN u (topN 16 u) 0)
    rw [← encV_tail, hu] at h3
    rw [h3] at hn0
    exact hn0 rfl
end Go.Tg

