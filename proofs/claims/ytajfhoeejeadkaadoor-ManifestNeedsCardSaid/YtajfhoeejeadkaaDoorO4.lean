/- Contracts of Go functions that the laws reach: what each call answers and leaves in memory, for all arguments within the bounds that each theorem names. -/
import Derived.Test.YtajfhoeejeadkaaDoorInst
import Derived.Test.YtajfhoeejeadkaaDoorAuto
import Derived.Test.YtajfhoeejeadkaaDoorC1
import Derived.Test.YtajfhoeejeadkaaDoorC5
import Derived.Test.YtajfhoeejeadkaaDoorW6
import Derived.Test.YtajfhoeejeadkaaDoorVecC
import Derived.Test.YtajfhoeejeadkaaDoorO2
import Derived.Test.YtajfhoeejeadkaaDoorMov
import Derived.Test.YtajfhoeejeadkaaDoorW2
set_option linter.unusedVariables false
set_option linter.unusedSimpArgs false
set_option maxRecDepth 100000
set_option maxHeartbeats 4000000
namespace Go.Tg
open Go Go.Proofs
def numsB (l : List Nat) : List UInt8 := (l.map putB).flatten
theorem numsB_app (a b : List Nat) : numsB (a ++ b) = numsB a ++ numsB b := by simp [numsB]
theorem numsB_one (n : Nat) : numsB [n] = putB n := by simp [numsB]
theorem numsB_cons (n : Nat) (l : List Nat) : numsB (n :: l) = putB n ++ numsB l := by simp [numsB]
theorem numsB_nil : numsB [] = [] := rfl
theorem numsB_len (l : List Nat) : (numsB l).length ≤ 11 * l.length := by
  induction l with
  | nil => simp [numsB]
  | cons n l ih => rw [numsB_cons, List.length_append, List.length_cons]; have := putB_len n; omega
theorem pack_NumK (b : Nat) (v : Value) (xs : List UInt8) (g : FH) (w : World) (HO : St w (wr b true 0 v xs).fp g g [wr b true 0 v xs] w) (n : Nat) (hn : n < 18446744073709551616) (hx : xs.length ≤ 65000) :
    Spec Tryd.prog 65 #[pt b, .int .u64 n] w (wr b true 0 v xs).fp g (fun v' h' L' => v' = .int .i64 0 ∧ ∃ v2, L' = [wr b true 0 v2 (xs ++ putB n)]) := by
  have := pack_Num b true 0 v xs g w HO n hn (by omega)
  rw [layE_ok (by have := putB_len n; omega)] at this; exact this
theorem frame_WrapK (h0 : FH) (a : Option Addr) (c : Nat) (xs : List UInt8) (w : World) (hs : Sat h0 w) (hT : Half h0) (hr : BS h0 a c xs) (hl : xs.length ≤ 4096) :
    Spec Tryd.prog 67 #[.slice a xs.length c] w [] h0 (fun v h' L' => ∃ a' c', v = .tuple #[.slice a' (wrapB xs).length c', .int .i64 0] ∧ h' = h0 ∧ L' = [own8 (.slice a' (wrapB xs).length c') 5 (wrapB xs)]) := by
  have := frame_Wrap h0 a c xs w hs hT hr
  rw [outW_ok hl] at this; exact this
def rowP (lf : Bool) (ks : List KeyT) (ls : List LocT) (ds : List UInt32) (i : Nat) : List Nat :=
  match ks[i]? with
  | some k => [k.cart.toNat, k.dot.rep.toNat, k.dot.seq.toNat] ++ (if lf = true then (match ls[i]? with | some l => [l.seg.toNat, l.at_.toNat] | none => []) else (match ds[i]? with | some x => [x.toNat] | none => []))
  | none => []
def rowsP (lf : Bool) (ks : List KeyT) (ls : List LocT) (ds : List UInt32) (k : Nat) : List Nat := ((List.range k).map (rowP lf ks ls ds)).flatten
def natsP (p : PageT) : List Nat := (if p.leaf = true then 1 else 0) :: p.keys.length :: rowsP p.leaf p.keys p.locs p.kids p.keys.length
def encP (p : PageT) : List UInt8 := wrapB (numsB (natsP p))
theorem rowsP_succ (lf : Bool) (ks : List KeyT) (ls : List LocT) (ds : List UInt32) (k : Nat) : rowsP lf ks ls ds (k + 1) = rowsP lf ks ls ds k ++ rowP lf ks ls ds k := by simp [rowsP, List.range_succ, List.flatten_append]
theorem rowP_leaf {ks : List KeyT} {ls : List LocT} {ds : List UInt32} {i : Nat} (h : i < ks.length) (h2 : i < ls.length) : rowP true ks ls ds i = [ks[i].cart.toNat, ks[i].dot.rep.toNat, ks[i].dot.seq.toNat, ls[i].seg.toNat, ls[i].at_.toNat] := by
  simp [rowP, h, h2]
theorem rowP_kid {ks : List KeyT} {ls : List LocT} {ds : List UInt32} {i : Nat} (h : i < ks.length) (h2 : i < ds.length) : rowP false ks ls ds i = [ks[i].cart.toNat, ks[i].dot.rep.toNat, ks[i].dot.seq.toNat, ds[i].toNat] := by
  simp [rowP, h, h2]
theorem rowP_len (lf : Bool) (ks : List KeyT) (ls : List LocT) (ds : List UInt32) (i : Nat) : (rowP lf ks ls ds i).length ≤ 5 := by
  unfold rowP
  split
  · split
    · split <;> simp
    · split <;> simp
  · simp
theorem rowsP_len (lf : Bool) (ks : List KeyT) (ls : List LocT) (ds : List UInt32) (k : Nat) : (rowsP lf ks ls ds k).length ≤ 5 * k := by
  induction k with
  | zero => simp [rowsP]
  | succ k ih => rw [rowsP_succ, List.length_append]; have := rowP_len lf ks ls ds k; omega
theorem numsR_len (x n : Nat) (lf : Bool) (ks : List KeyT) (ls : List LocT) (ds : List UInt32) {k : Nat} (hk : k ≤ 8) : (numsB (x :: n :: rowsP lf ks ls ds k)).length ≤ 462 := by
  have h1 := numsB_len (x :: n :: rowsP lf ks ls ds k)
  have h2 := rowsP_len lf ks ls ds k
  simp only [List.length_cons] at h1
  omega
end Go.Tg

set_option linter.unusedVariables false
set_option linter.unusedSimpArgs false
set_option maxRecDepth 100000
set_option maxHeartbeats 4000000
namespace Go.Tg
open Go Go.Proofs
open Classical in
noncomputable def decV (b : List UInt8) : V16 × Int := if h : ∃ u, encV u = b then (h.choose, 0) else (fun _ => 0, 5)
theorem decV_spec (b : List UInt8) : DecV b (decV b).1 (decV b).2 := by
  unfold decV
  split
  · rename_i h; exact .inl ⟨rfl, h.choose_spec⟩
  · rename_i h; exact .inr ⟨rfl, rfl, fun u hu => h ⟨u, hu⟩⟩
theorem decV_fin {b : List UInt8} {x : V16} {e : Int} {l : List Value} (h : DecV b x e) (hl : l = cV x) : Value.tuple #[.agg l.toArray, .int .i64 e] = .tuple #[.agg (cV (decV b).1).toArray, .int .i64 (decV b).2] := by
  obtain ⟨h1, h2⟩ := h.unique (decV_spec b)
  rw [hl, h1, h2]
theorem decV_enc (v : V16) : decV (encV v) = (v, 0) := by
  obtain ⟨h1, h2⟩ := (decV_spec (encV v)).unique (.inl ⟨rfl, rfl⟩ : DecV (encV v) v 0)
  exact Prod.ext h1 h2
theorem setV_tail {x : V16} {q : Nat} (hq : q < 16) (y : UInt32) : atV (fun i => if i.val = q then y else x i) q = y := by rw [atV_lt _ hq]; simp
theorem setV_other {x : V16} {q i : Nat} (hi : i ≠ q) (y : UInt32) : atV (fun i => if i.val = q then y else x i) i = atV x i := by
  by_cases h : i < 16
  · rw [atV_lt _ h, atV_lt _ h]; simp [hi]
  · simp [atV, h]
theorem u32_of {y : Nat} (h : y < 4294967296) : Value.int .u32 (y : Int) = u32 (UInt32.ofNat y) := by unfold u32; simp; omega
theorem vec_Decode (h0 : FH) (a : Option Addr) (c : Nat) (b : List UInt8) (w : World) (hs : Sat h0 w) (hr : BS h0 a c b) (hb : b.length ≤ 1000000) :
    SpecV Tryd.prog 96 #[.slice a b.length c] w (.tuple #[.agg (cV (decV b).1).toArray, .int .i64 (decV b).2]) := by
  have H := St.start hs
  unfold SpecV
  refine calls_of Tryd.func96 rfl Tryd.ntmps96 (by simp) ?_
  repeat' (first | ((first | refine WL.p rfl ?_ | refine WL.u ?_ | refine WL.g rfl rfl ?_ | refine WL.gu rfl ?_); first | refine pvQ ?_ | (refine opk 3 rfl ?_; (refine ost_cmp rfl rfl rfl rfl (fun hc => ?_) (fun hc => ?_) <;> (simp only [cmpP] at hc; try exact prIQ))) | (refine opk 4 rfl ?_; (refine ost_cmp rfl rfl rfl rfl (fun hc => ?_) (fun hc => ?_) <;> (simp only [cmpP] at hc; try exact prIQ))) | (refine opk 8 rfl ?_; first | (refine ost_store1 H rfl rfl vlQ gvQ ixQ (by first | decide | (simp; omega) | (simp; done) | omega) ?_; clear H; intro wk H; simp only [List.set_cons_zero, List.set_cons_succ, Nat.reduceAdd] at H) | (refine ost_storeW H rfl rfl rfl rfl lQ ixQ lQ okQ ?_; clear H; intro wk H; simp only [List.set_cons_zero, List.set_cons_succ, Nat.reduceAdd] at H)) | (refine opk 9 rfl ?_; (refine ost_allocA H rfl ?_; clear H; intro bk wk H))) | refine Wc.seq ?_ | refine then_n ?_ | refine WL.nil ?_ | refine Wc.region ?_ | refine Wc.block ?_ | refine then_r ?_ | refine then_e ?_ | refine inb_e rfl ?_ | refine inb_o rfl ?_ | refine inb_n ?_ | refine inb_r ?_ | refine Wc.skip ?_ | refine Wc.exit ?_ | refine Wc.ret ?_ | refine Wc.cond_true rfl ?_ | refine Wc.cond_false rfl ?_ | refine WL.skp rfl rfl ?_ | refine WL.sku rfl ?_)
  generalize bk = b2 at H ⊢
  have z16 : (List.replicate 16 (Value.int .u32 0)).length = 16 := by simp
  have hlt0 := numE_lt 0 b
  -- refused
  have no5 : (∀ u, encV u ≠ b) → Value.tuple #[.agg (List.replicate 16 (Value.int .u32 0)).toArray, .int .i64 5] = .tuple #[.agg (cV (decV b).1).toArray, .int .i64 (decV b).2] := fun hu => decV_fin (.inr ⟨rfl, rfl, hu⟩) cV_zero.symm
  by_cases hn0 : (numE 0 b).2.1 = 0
  · by_cases hn : (numE 0 b).1 ≤ 16
    · have hb0 := numE_inv hn0
      have hz := numE_ok hn0
      repeat' (first | ((first | refine WL.p rfl ?_ | refine WL.u ?_ | refine WL.g rfl rfl ?_ | refine WL.gu rfl ?_); first | (refine opk 1 rfl ?_; first | (refine ost_Sk H rfl (pack_Read _ _ _ _ _ H.sat hr (by omega)) rfl ?_; clear H; rintro vk wk hfk Lk ⟨b1, a1, c1, rfl, hr1, rfl⟩ hle H; simp only [List.cons_append, List.nil_append] at H) | (refine ost_H (A := rdr _ _ _ _ _ _) H rfl (by (exact ixQ)) (fun HO => rd_Num _ _ _ _ _ _ _ HO hr1) rfl ?_; clear H; rintro vk wk hfk Lk ⟨rfl, rfl, a2, c2, hr2, rfl⟩ hle H; simp only [List.cons_append, List.nil_append, List.eraseIdx_cons_zero, List.eraseIdx_cons_succ] at H)) | refine pvQ ?_ | (refine opk 3 rfl ?_; (refine ost_cmp rfl rfl rfl rfl (fun hc => ?_) (fun hc => ?_) <;> (simp only [cmpP] at hc; try exact prIQ))) | (refine opk 4 rfl ?_; (refine ost_cmp rfl rfl rfl rfl (fun hc => ?_) (fun hc => ?_) <;> (simp only [cmpP] at hc; try exact prIQ))) | (refine opk 8 rfl ?_; first | (refine ost_store1 H rfl rfl vlQ gvQ ixQ (by first | decide | (simp; omega) | (simp; done) | omega) ?_; clear H; intro wk H; simp only [List.set_cons_zero, List.set_cons_succ, Nat.reduceAdd] at H) | (refine ost_storeW H rfl rfl rfl rfl lQ ixQ lQ okQ ?_; clear H; intro wk H; simp only [List.set_cons_zero, List.set_cons_succ, Nat.reduceAdd] at H)) | (refine opk 9 rfl ?_; (refine ost_allocA H rfl ?_; clear H; intro bk wk H))) | refine Wc.seq ?_ | refine then_n ?_ | refine WL.nil ?_ | refine Wc.region ?_ | refine Wc.block ?_ | refine then_r ?_ | refine then_e ?_ | refine inb_e rfl ?_ | refine inb_o rfl ?_ | refine inb_n ?_ | refine inb_r ?_ | refine Wc.skip ?_ | refine Wc.exit ?_ | refine Wc.ret ?_ | refine Wc.cond_true rfl ?_ | refine Wc.cond_false rfl ?_ | refine WL.skp rfl rfl ?_ | refine WL.sku rfl ?_)
      generalize hE : numE 0 b = E at *
      generalize hfk = h1 at *
      refine Wc.loopE (fun s0 m s w' => ∃ (q : Nat) (e : Int) (xs : List UInt8) (a3 : Option Addr) (c3 : Nat) (x : V16), m = E.1 - q ∧ q ≤ E.1 ∧ Agree [3, 8, 9, 10, 28, 29, 30, 31, 32, 33, 34, 35, 36, 37, 38, 39, 40, 41, 42, 43] s s0 ∧ s 28 = .int .i64 q ∧ BS h1 a3 c3 xs ∧ (∀ i, q ≤ i → i < 16 → (atV x i).toNat = 0) ∧
        (e = 0 → b = encN x E.1 q ++ xs) ∧ (∀ u, encV u = b → topN 16 u = E.1 ∧ e = 0 ∧ xs = tailN u E.1 q ∧ ∀ i, i < q → atV x i = atV u i) ∧
        St w [] h0 h1 [.blk bk (.cells (cV x).toArray 65 (0, 0)), rdr b1 true e a3 xs.length c3, .blk b2 (.cells (List.replicate 16 (Value.int .u32 0)).toArray 65 (0, 0))] w') E.1
        ⟨0, E.2.2.1, E.2.2.2, a2, c2, fun _ => 0, rfl, by omega, Agree.refl _ _, rfl, hr2, fun i _ _ => by simp [atV], fun _ => by rw [encN_zero]; exact hb0, fun u hu => ?_, H⟩ ?_
      · have h3 := numE_putB (topN 16 u) (by have := topN_le 16 u; omega) (tailN u (topN 16 u) 0)
        rw [← encV_tail, hu, hE] at h3
        rw [h3]; exact ⟨rfl, rfl, rfl, fun i hi => absurd hi (by omega)⟩
      clear H hr2
      rintro m s w' ⟨q, e, xs, a3, c3, x, rfl, hq, hA, e1, hr3, hx0, hA1, hB, H⟩
      obtain ⟨j, rfl⟩ := hA.env1 e1
      clear hA e1
      by_cases hlt : q < E.1
      · have lx := cV_len x
        have hy := numE_lt e xs
        have hBq : ∀ u, encV u = b → numE e xs = ((atV u q).toNat, 0, 0, tailN u E.1 (q + 1)) := fun u hu => by
          obtain ⟨_, rfl, h4, _⟩ := hB u hu
          rw [h4, tailN_step hlt, numE_putB _ (atV_b _ _)]
        generalize hy9 : numE e xs = Y at *
        by_cases hbig : 4294967295 < Y.1
        · repeat' (first | ((first | refine WL.p rfl ?_ | refine WL.u ?_ | refine WL.g rfl rfl ?_ | refine WL.gu rfl ?_); first | (refine opk 1 rfl ?_; (refine ost_H (A := rdr _ _ _ _ _ _) H rfl (by (exact ixQ)) (fun HO => hy9 ▸ rd_Num _ _ _ _ _ _ _ HO hr3) rfl ?_; clear H; rintro vk wk hfk Lk ⟨rfl, rfl, a4, c4, hr4, rfl⟩ hle H; simp only [List.cons_append, List.nil_append, List.eraseIdx_cons_zero, List.eraseIdx_cons_succ] at H)) | refine pvQ ?_ | (refine opk 3 rfl ?_; (refine ost_cmp rfl rfl rfl rfl (fun hc => ?_) (fun hc => ?_) <;> (simp only [cmpP] at hc; try exact prIQ))) | (refine opk 4 rfl ?_; (refine ost_cmp rfl rfl rfl rfl (fun hc => ?_) (fun hc => ?_) <;> (simp only [cmpP] at hc; try exact prIQ))) | (refine opk 8 rfl ?_; first | (refine ost_store1 H rfl rfl vlQ gvQ ixQ (by first | decide | (simp; omega) | (simp; done) | omega) ?_; clear H; intro wk H; simp only [List.set_cons_zero, List.set_cons_succ, Nat.reduceAdd] at H) | (refine ost_storeW H rfl rfl rfl rfl lQ ixQ lQ okQ ?_; clear H; intro wk H; simp only [List.set_cons_zero, List.set_cons_succ, Nat.reduceAdd] at H)) | (refine opk 9 rfl ?_; (refine ost_allocA H rfl ?_; clear H; intro bk wk H))) | refine Wc.seq ?_ | refine then_n ?_ | refine WL.nil ?_ | refine Wc.region ?_ | refine Wc.block ?_ | refine then_r ?_ | refine then_e ?_ | refine inb_e rfl ?_ | refine inb_o rfl ?_ | refine inb_n ?_ | refine inb_r ?_ | refine Wc.skip ?_ | refine Wc.exit ?_ | refine Wc.ret ?_ | refine Wc.cond_true rfl ?_ | refine Wc.cond_false rfl ?_ | refine WL.skp rfl rfl ?_ | refine WL.sku rfl ?_)
          refine fn_ret2 (v2 := .int _ _) rfl (rv_cellA rfl rfl H.bI lQ) rfl ⟨no5 fun u hu => ?_, H.fr⟩
          have := hBq u hu
          have h9 := (atV u q).toNat_lt
          rw [this] at hbig; simp at hbig; omega
        · repeat' (first | ((first | refine WL.p rfl ?_ | refine WL.u ?_ | refine WL.g rfl rfl ?_ | refine WL.gu rfl ?_); first | (refine opk 1 rfl ?_; (refine ost_H (A := rdr _ _ _ _ _ _) H rfl (by (exact ixQ)) (fun HO => hy9 ▸ rd_Num _ _ _ _ _ _ _ HO hr3) rfl ?_; clear H; rintro vk wk hfk Lk ⟨rfl, rfl, a4, c4, hr4, rfl⟩ hle H; simp only [List.cons_append, List.nil_append, List.eraseIdx_cons_zero, List.eraseIdx_cons_succ] at H)) | refine pvQ ?_ | (refine opk 3 rfl ?_; (refine ost_cmp rfl rfl rfl rfl (fun hc => ?_) (fun hc => ?_) <;> (simp only [cmpP] at hc; try exact prIQ))) | (refine opk 4 rfl ?_; (refine ost_cmp rfl rfl rfl rfl (fun hc => ?_) (fun hc => ?_) <;> (simp only [cmpP] at hc; try exact prIQ))) | (refine opk 8 rfl ?_; first | (refine ost_store1 H rfl rfl vlQ gvQ ixQ (by first | decide | (simp; omega) | (simp; done) | omega) ?_; clear H; intro wk H; simp only [List.set_cons_zero, List.set_cons_succ, Nat.reduceAdd] at H) | (refine ost_storeW H rfl rfl rfl rfl lQ ixQ lQ okQ ?_; clear H; intro wk H; simp only [List.set_cons_zero, List.set_cons_succ, Nat.reduceAdd] at H)) | (refine opk 9 rfl ?_; (refine ost_allocA H rfl ?_; clear H; intro bk wk H))) | refine Wc.seq ?_ | refine then_n ?_ | refine WL.nil ?_ | refine Wc.region ?_ | refine Wc.block ?_ | refine then_r ?_ | refine then_e ?_ | refine inb_e rfl ?_ | refine inb_o rfl ?_ | refine inb_n ?_ | refine inb_r ?_ | refine Wc.skip ?_ | refine Wc.exit ?_ | refine Wc.ret ?_ | refine Wc.cond_true rfl ?_ | refine Wc.cond_false rfl ?_ | refine WL.skp rfl rfl ?_ | refine WL.sku rfl ?_)
          have hq16 : q < 16 := by omega
          rw [u32_of (by omega), show 0 + (q : Int).toNat * 1 = q by omega, cV_set x q hq16] at H
          refine ⟨E.1 - (q + 1), by omega, q + 1, Y.2.2.1, Y.2.2.2, a4, c4, fun i => if i.val = q then UInt32.ofNat Y.1 else x i, rfl, by omega, by (repeat' (first | exact Agree.refl _ _ | exact Agree.havoc | refine Agree.upd rfl ?_ | refine Agree.hav2 rfl ?_)), rfl, hr4, fun i h5 h6 => ?_, fun he => ?_, fun u hu => ?_, H.front 1 rfl⟩
          · rw [setV_other (by omega)]; exact hx0 i (by omega) h6
          · have he0 : e = 0 := Classical.byContradiction fun hne => by
              rw [numE_err hne] at hy9
              rw [← hy9] at he; exact hne he
            subst he0
            have hY0 : Y.2.1 = 0 := Classical.byContradiction fun hne => by
              rw [← hy9] at hne
              have := (numE_err2 hne).1
              rw [hy9] at this; exact this he
            have h7 := numE_inv (xs := xs) (by rw [hy9]; exact hY0)
            rw [hy9] at h7
            rw [encN_succ, setV_tail hq16, show (UInt32.ofNat Y.1).toNat = Y.1 by simp; omega, encN_congr (v := x) (fun i hi => setV_other (by omega) _), List.append_assoc, ← h7]
            exact hA1 rfl
          · obtain ⟨h5, h6, h7, h8⟩ := hB u hu
            have h9 := hBq u hu
            rw [h9]
            refine ⟨h5, rfl, rfl, fun i hi => ?_⟩
            by_cases hiq : i = q
            · subst hiq; rw [setV_tail hq16]; simp
            · rw [setV_other hiq]; exact h8 i (by omega)
      · obtain rfl : q = E.1 := by omega
        have lx := cV_len x
        have hend : ∀ u, encV u = b → e = 0 ∧ xs.length = 0 ∧ (0 < E.1 → (atV x (E.1 - 1)).toNat ≠ 0) := fun u hu => by
          obtain ⟨h5, h6, h7, h8⟩ := hB u hu
          rw [tailN_end] at h7
          refine ⟨h6, by rw [h7]; rfl, fun hp => ?_⟩
          rw [h8 _ (by omega), ← h5]
          exact topN_last 16 u (by omega)
        have hsuc : e = 0 → xs.length = 0 → (E.1 = 0 ∨ (atV x (E.1 - 1)).toNat ≠ 0) → encV x = b := fun h5 h6 h7 => by
          have h8 := hA1 h5
          rw [List.eq_nil_of_length_eq_zero h6, List.append_nil] at h8
          rw [encV, topN_of 16 hn hx0 h7, h8]
        have hd : (decide (e = 0) && decide (xs.length = 0)) = true → e = 0 ∧ xs.length = 0 := by simp
        by_cases hp : 0 < E.1
        · have gn : (cV x)[0 + ((E.1 : Int) - 1).toNat * 1]? = some (.int .u32 (atV x (E.1 - 1)).toNat) := by
            rw [show 0 + ((E.1 : Int) - 1).toNat * 1 = E.1 - 1 by omega]; exact atV_lt' x (by omega)
          repeat' (first | ((first | refine WL.p rfl ?_ | refine WL.u ?_ | refine WL.g rfl rfl ?_ | refine WL.gu rfl ?_); first | (refine opk 1 rfl ?_; (refine ost_VB H rfl (rd_Done _ _ _ _ _ _ H.bI) rfl ?_ ?_ <;> (intro hc; (try (first | exact (bcon hc ‹_›).elim | exact (bcon ‹_› hc).elim)); try (clear H; intro wk H)))) | refine pvQ ?_ | (refine opk 3 rfl ?_; (refine ost_cmp rfl rfl rfl rfl (fun hc => ?_) (fun hc => ?_) <;> (simp only [cmpP] at hc; try exact prIQ))) | (refine opk 4 rfl ?_; (refine ost_cmp rfl rfl rfl rfl (fun hc => ?_) (fun hc => ?_) <;> (simp only [cmpP] at hc; try exact prIQ))) | (refine opk 8 rfl ?_; first | (refine ost_store1 H rfl rfl vlQ gvQ ixQ (by first | decide | (simp; omega) | (simp; done) | omega) ?_; clear H; intro wk H; simp only [List.set_cons_zero, List.set_cons_succ, Nat.reduceAdd] at H) | (refine ost_storeW H rfl rfl rfl rfl lQ ixQ lQ okQ ?_; clear H; intro wk H; simp only [List.set_cons_zero, List.set_cons_succ, Nat.reduceAdd] at H)) | (refine opk 9 rfl ?_; (refine ost_allocA H rfl ?_; clear H; intro bk wk H))) | refine Wc.seq ?_ | refine then_n ?_ | refine WL.nil ?_ | refine Wc.region ?_ | refine Wc.block ?_ | refine then_r ?_ | refine then_e ?_ | refine inb_e rfl ?_ | refine inb_o rfl ?_ | refine inb_n ?_ | refine inb_r ?_ | refine Wc.skip ?_ | refine Wc.exit ?_ | refine Wc.ret ?_ | refine Wc.cond_true rfl ?_ | refine Wc.cond_false rfl ?_ | refine WL.skp rfl rfl ?_ | refine WL.sku rfl ?_)
          all_goals first
            | (refine fn_ret2 (v2 := .int _ _) rfl (rv_cellA rfl rfl H.bI lQ) rfl ⟨no5 fun u hu => ?_, H.fr⟩; obtain ⟨h5, h6, h7⟩ := hend u hu; first | exact h7 hp (by omega) | (rw [h5, h6] at hc; simp at hc))
            | (obtain ⟨h5, h6⟩ := hd ‹_›; exact fn_ret2 (v2 := .int _ _) rfl (rv_cellA rfl rfl H.bI lQ) rfl ⟨decV_fin (.inl ⟨rfl, hsuc h5 h6 (.inr (by omega))⟩) rfl, H.fr⟩)
        · repeat' (first | ((first | refine WL.p rfl ?_ | refine WL.u ?_ | refine WL.g rfl rfl ?_ | refine WL.gu rfl ?_); first | (refine opk 1 rfl ?_; (refine ost_VB H rfl (rd_Done _ _ _ _ _ _ H.bI) rfl ?_ ?_ <;> (intro hc; (try (first | exact (bcon hc ‹_›).elim | exact (bcon ‹_› hc).elim)); try (clear H; intro wk H)))) | refine pvQ ?_ | (refine opk 3 rfl ?_; (refine ost_cmp rfl rfl rfl rfl (fun hc => ?_) (fun hc => ?_) <;> (simp only [cmpP] at hc; try exact prIQ))) | (refine opk 4 rfl ?_; (refine ost_cmp rfl rfl rfl rfl (fun hc => ?_) (fun hc => ?_) <;> (simp only [cmpP] at hc; try exact prIQ))) | (refine opk 8 rfl ?_; first | (refine ost_store1 H rfl rfl vlQ gvQ ixQ (by first | decide | (simp; omega) | (simp; done) | omega) ?_; clear H; intro wk H; simp only [List.set_cons_zero, List.set_cons_succ, Nat.reduceAdd] at H) | (refine ost_storeW H rfl rfl rfl rfl lQ ixQ lQ okQ ?_; clear H; intro wk H; simp only [List.set_cons_zero, List.set_cons_succ, Nat.reduceAdd] at H)) | (refine opk 9 rfl ?_; (refine ost_allocA H rfl ?_; clear H; intro bk wk H))) | refine Wc.seq ?_ | refine then_n ?_ | refine WL.nil ?_ | refine Wc.region ?_ | refine Wc.block ?_ | refine then_r ?_ | refine then_e ?_ | refine inb_e rfl ?_ | refine inb_o rfl ?_ | refine inb_n ?_ | refine inb_r ?_ | refine Wc.skip ?_ | refine Wc.exit ?_ | refine Wc.ret ?_ | refine Wc.cond_true rfl ?_ | refine Wc.cond_false rfl ?_ | refine WL.skp rfl rfl ?_ | refine WL.sku rfl ?_)
          all_goals first
            | (refine fn_ret2 (v2 := .int _ _) rfl (rv_cellA rfl rfl H.bI lQ) rfl ⟨no5 fun u hu => ?_, H.fr⟩; obtain ⟨h5, h6, h7⟩ := hend u hu; rw [h5, h6] at hc; simp at hc)
            | (obtain ⟨h5, h6⟩ := hd ‹_›; exact fn_ret2 (v2 := .int _ _) rfl (rv_cellA rfl rfl H.bI lQ) rfl ⟨decV_fin (.inl ⟨rfl, hsuc h5 h6 (.inl (by omega))⟩) rfl, H.fr⟩)
    · repeat' (first | ((first | refine WL.p rfl ?_ | refine WL.u ?_ | refine WL.g rfl rfl ?_ | refine WL.gu rfl ?_); first | (refine opk 1 rfl ?_; first | (refine ost_Sk H rfl (pack_Read _ _ _ _ _ H.sat hr (by omega)) rfl ?_; clear H; rintro vk wk hfk Lk ⟨b1, a1, c1, rfl, hr1, rfl⟩ hle H; simp only [List.cons_append, List.nil_append] at H) | (refine ost_H (A := rdr _ _ _ _ _ _) H rfl (by (exact ixQ)) (fun HO => rd_Num _ _ _ _ _ _ _ HO hr1) rfl ?_; clear H; rintro vk wk hfk Lk ⟨rfl, rfl, a2, c2, hr2, rfl⟩ hle H; simp only [List.cons_append, List.nil_append, List.eraseIdx_cons_zero, List.eraseIdx_cons_succ] at H)) | refine pvQ ?_ | (refine opk 3 rfl ?_; (refine ost_cmp rfl rfl rfl rfl (fun hc => ?_) (fun hc => ?_) <;> (simp only [cmpP] at hc; try exact prIQ))) | (refine opk 4 rfl ?_; (refine ost_cmp rfl rfl rfl rfl (fun hc => ?_) (fun hc => ?_) <;> (simp only [cmpP] at hc; try exact prIQ))) | (refine opk 8 rfl ?_; first | (refine ost_store1 H rfl rfl vlQ gvQ ixQ (by first | decide | (simp; omega) | (simp; done) | omega) ?_; clear H; intro wk H; simp only [List.set_cons_zero, List.set_cons_succ, Nat.reduceAdd] at H) | (refine ost_storeW H rfl rfl rfl rfl lQ ixQ lQ okQ ?_; clear H; intro wk H; simp only [List.set_cons_zero, List.set_cons_succ, Nat.reduceAdd] at H)) | (refine opk 9 rfl ?_; (refine ost_allocA H rfl ?_; clear H; intro bk wk H))) | refine Wc.seq ?_ | refine then_n ?_ | refine WL.nil ?_ | refine Wc.region ?_ | refine Wc.block ?_ | refine then_r ?_ | refine then_e ?_ | refine inb_e rfl ?_ | refine inb_o rfl ?_ | refine inb_n ?_ | refine inb_r ?_ | refine Wc.skip ?_ | refine Wc.exit ?_ | refine Wc.ret ?_ | refine Wc.cond_true rfl ?_ | refine Wc.cond_false rfl ?_ | refine WL.skp rfl rfl ?_ | refine WL.sku rfl ?_)
      refine fn_ret2 (v2 := .int _ _) rfl (rv_cellA rfl rfl H.bI lQ) rfl ⟨no5 fun u hu => ?_, H.fr⟩
      have h3 := numE_putB (topN 16 u) (by have := topN_le 16 u; omega) (tailN u (topN 16 u) 0)
      rw [← encV_tail, hu] at h3
      rw [h3] at hn
      exact hn (topN_le 16 u)
  · repeat' (first | ((first | refine WL.p rfl ?_ | refine WL.u ?_ | refine WL.g rfl rfl ?_ | refine WL.gu rfl ?_); first | (refine opk 1 rfl ?_; first | (refine ost_Sk H rfl (pack_Read _ _ _ _ _ H.sat hr (by omega)) rfl ?_; clear H; rintro vk wk hfk Lk ⟨b1, a1, c1, rfl, hr1, rfl⟩ hle H; simp only [List.cons_append, List.nil_append] at H) | (refine ost_H (A := rdr _ _ _ _ _ _) H rfl (by (exact ixQ)) (fun HO => rd_Num _ _ _ _ _ _ _ HO hr1) rfl ?_; clear H; rintro vk wk hfk Lk ⟨rfl, rfl, a2, c2, hr2, rfl⟩ hle H; simp only [List.cons_append, List.nil_append, List.eraseIdx_cons_zero, List.eraseIdx_cons_succ] at H)) | refine pvQ ?_ | (refine opk 3 rfl ?_; (refine ost_cmp rfl rfl rfl rfl (fun hc => ?_) (fun hc => ?_) <;> (simp only [cmpP] at hc; try exact prIQ))) | (refine opk 4 rfl ?_; (refine ost_cmp rfl rfl rfl rfl (fun hc => ?_) (fun hc => ?_) <;> (simp only [cmpP] at hc; try exact prIQ))) | (refine opk 8 rfl ?_; first | (refine ost_store1 H rfl rfl vlQ gvQ ixQ (by first | decide | (simp; omega) | (simp; done) | omega) ?_; clear H; intro wk H; simp only [List.set_cons_zero, List.set_cons_succ, Nat.reduceAdd] at H) | (refine ost_storeW H rfl rfl rfl rfl lQ ixQ lQ okQ ?_; clear H; intro wk H; simp only [List.set_cons_zero, List.set_cons_succ, Nat.reduceAdd] at H)) | (refine opk 9 rfl ?_; (refine ost_allocA H rfl ?_; clear H; intro bk wk H))) | refine Wc.seq ?_ | refine then_n ?_ | refine WL.nil ?_ | refine Wc.region ?_ | refine Wc.block ?_ | refine then_r ?_ | refine then_e ?_ | refine inb_e rfl ?_ | refine inb_o rfl ?_ | refine inb_n ?_ | refine inb_r ?_ | refine Wc.skip ?_ | refine Wc.exit ?_ | refine Wc.ret ?_ | refine Wc.cond_true rfl ?_ | refine Wc.cond_false rfl ?_ | refine WL.skp rfl rfl ?_ | refine WL.sku rfl ?_)
    refine fn_ret2 (v2 := .int _ _) rfl (rv_cellA rfl rfl H.bI lQ) rfl ⟨no5 fun u hu => ?_, H.fr⟩
    have h3 := numE_putB (topN 16 u) (by have := topN_le 16 u; omega) (tailN u (topN 16 u) 0)
    rw [← encV_tail, hu] at h3
    rw [h3] at hn0
    exact hn0 rfl
end Go.Tg

set_option linter.unusedVariables false
set_option linter.unusedSimpArgs false
set_option maxRecDepth 100000
set_option maxHeartbeats 4000000
namespace Go.Tg
open Go Go.Proofs
def numsO (o : OpT) (k : Nat) : Nat := if k = 0 then o.dot.rep.toNat else if k = 1 then o.dot.seq.toNat else if k = 2 then o.kind.toNat else if k = 3 then o.cart.toNat else if k = 4 then o.item.toNat else if k = 5 then o.qty.toNat else o.tick.toNat
theorem numsO_lt (o : OpT) (k : Nat) : numsO o k < 4294967296 := by
  have h1 := o.dot.rep.toNat_lt; have h2 := o.dot.seq.toNat_lt; have h3 := o.kind.toNat_lt; have h4 := o.cart.toNat_lt; have h5 := o.item.toNat_lt; have h6 := o.qty.toNat_lt; have h7 := o.tick.toNat_lt
  unfold numsO; repeat' split
  all_goals omega
def putsO (o : OpT) (k : Nat) : List UInt8 := ((List.range k).map fun i => putB (numsO o i)).flatten
def encO (o : OpT) : List UInt8 := putsO o 7 ++ fieldB (encV o.ctx)
end Go.Tg

