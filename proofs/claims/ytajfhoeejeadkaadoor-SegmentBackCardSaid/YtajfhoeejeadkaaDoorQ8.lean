/- Contracts of Go functions that the laws reach: what each call answers and leaves in memory, for all arguments within the bounds that each theorem names. -/
import Derived.Test.YtajfhoeejeadkaaDoorInst
import Derived.Test.YtajfhoeejeadkaaDoorAuto
import Derived.Test.YtajfhoeejeadkaaDoorQ2
import Derived.Test.YtajfhoeejeadkaaDoorVecD
import Derived.Test.YtajfhoeejeadkaaDoorMov
import Derived.Test.YtajfhoeejeadkaaDoorW7
set_option linter.unusedVariables false
set_option linter.unusedSimpArgs false
set_option maxRecDepth 100000
set_option maxHeartbeats 4000000
namespace Go.Tg
open Go Go.Proofs
def numsO (o : OpT) (k : Nat) : Nat := if k = 0 then o.dot.rep.toNat else if k = 1 then o.dot.seq.toNat else if k = 2 then o.kind.toNat else if k = 3 then o.cart.toNat else if k = 4 then o.item.toNat else if k = 5 then o.qty.toNat else o.tick.toNat
theorem numsO_lt (o : OpT) (k : Nat) : numsO o k < 4294967296 := by
  have h1 := o.dot.rep.toNat_lt; have h2 := o.dot.seq.toNat_lt; have h3 := o.kind.toNat_lt; have h4 := o.cart.toNat_lt; have h5 := o.item.toNat_lt; have h6 := o.qty.toNat_lt; have h7 := o.tick.toNat_lt
  unfold numsO; repeat' split
  all_goals omega
def putsO (o : OpT) (k : Nat) : List UInt8 := ((List.range k).map fun i => putB (numsO o i)).flatten
theorem putsO_succ (o : OpT) (k : Nat) : putsO o (k + 1) = putsO o k ++ putB (numsO o k) := by simp [putsO, List.range_succ, List.flatten_append]
theorem putsO_len (o : OpT) (k : Nat) : (putsO o k).length ≤ 11 * k := by
  induction k with
  | zero => simp [putsO]
  | succ k ih => rw [putsO_succ, List.length_append]; have := putB_len (numsO o k); omega
def encO (o : OpT) : List UInt8 := putsO o 7 ++ fieldB (encV o.ctx)
theorem fieldB_len (xs : List UInt8) : (fieldB xs).length ≤ 11 + xs.length := by unfold fieldB; rw [List.length_append]; have := putB_len xs.length; omega
theorem encO_len (o : OpT) : (encO o).length ≤ 275 := by
  unfold encO; rw [List.length_append]; have h1 := putsO_len o 7; have h2 := fieldB_len (encV o.ctx); have h3 := encV_len o.ctx; omega
def valsO (o : OpT) : List Value := [.int .u64 o.dot.rep.toNat, .int .u64 o.dot.seq.toNat, .int .u64 o.kind.toNat, .int .u64 o.cart.toNat, .int .u64 o.item.toNat, .int .u64 o.qty.toNat, .int .u64 o.tick.toNat]
theorem valsO_get (o : OpT) {k : Nat} (h : k < 7) : (valsO o)[k]? = some (.int .u64 (numsO o k)) := by
  match k, h with
  | 0, _ | 1, _ | 2, _ | 3, _ | 4, _ | 5, _ | 6, _ => rfl
def outO (o : OpT) : List UInt8 × Int := if rightO o 16 = true then (encO o, 0) else ([], 2)
theorem op_Encode (h0 : FH) (o : OpT) (w : World) (hs : Sat h0 w) :
    Spec Tryd.prog 75 #[.agg (cOp o).toArray] w [] h0 (fun v h' L' => ∃ a' c', v = .tuple #[.slice a' (outO o).1.length c', .int .i64 (outO o).2] ∧ h' = h0 ∧ L' = [own8 (.slice a' (outO o).1.length c') 5 (outO o).1]) := by
  have H := St.start hs
  have lo := cOp_len o
  have lc := cV_len o.ctx
  have hc := cOp_ctx o
  have h1 := o.dot.rep.toNat_lt; have h2 := o.dot.seq.toNat_lt; have h3 := o.kind.toNat_lt; have h4 := o.cart.toNat_lt; have h5 := o.item.toNat_lt; have h6 := o.qty.toNat_lt; have h7 := o.tick.toNat_lt
  unfold Spec
  refine calls_of Tryd.func75 rfl Tryd.ntmps75 (by simp) ?_
  cases hr : rightO o 16 with
  | false =>
    have e0 : outO o = ([], 2) := by simp [outO, hr]
    rw [e0]
    repeat' (first | ((first | refine WL.p rfl ?_ | refine WL.u ?_); first | (refine opk 1 rfl ?_; (refine ost_VB H rfl (op_Right _ _ _) rfl ?_ ?_ <;> (intro hc; (try (first | exact (bcon hc ‹_›).elim | exact (bcon ‹_› hc).elim)); try (clear H; intro wk H)))) | refine pvQ ?_ | (refine opk 3 rfl ?_; (refine ost_cmp rfl rfl rfl rfl (fun hc => ?_) (fun hc => ?_) <;> (simp only [cmpP] at hc; try exact prIQ))) | (refine opk 4 rfl ?_; (refine ost_cmp rfl rfl rfl rfl (fun hc => ?_) (fun hc => ?_) <;> (simp only [cmpP] at hc; try exact prIQ))) | (refine opk 9 rfl ?_; (refine ost_boxq H rfl ?_; clear H; intro bk wk H))) | refine Wc.seq ?_ | refine then_n ?_ | refine WL.nil ?_ | refine Wc.region ?_ | refine Wc.block ?_ | refine then_r ?_ | refine then_e ?_ | refine inb_e rfl ?_ | refine inb_o rfl ?_ | refine inb_n ?_ | refine inb_r ?_ | refine Wc.skip ?_ | refine Wc.exit ?_ | refine Wc.ret ?_ | refine Wc.cond_true rfl ?_ | refine Wc.cond_false rfl ?_)
    exact fn_ret2 (v1 := .slice _ _ _) (v2 := .int _ _) rfl rfl rfl ⟨_, _, (H.nil8 5).pick 0 rfl, _, _, rfl, rfl, rfl⟩
  | true =>
    have e0 : outO o = (encO o, 0) := by simp [outO, hr]
    rw [e0]
    repeat' (first | ((first | refine WL.p rfl ?_ | refine WL.u ?_); first | (refine opk 1 rfl ?_; first | (refine ost_VB H rfl (op_Right _ _ _) rfl ?_ ?_ <;> (intro hc; (try (first | exact (bcon hc ‹_›).elim | exact (bcon ‹_› hc).elim)); try (clear H; intro wk H))) | (refine ost_C H rfl (pack_New _ _ (sat_full _)) rfl ?_; clear H; rintro vk wk hfk Lk ⟨b1, rfl, rfl⟩ H; simp only [List.cons_append, List.nil_append] at H)) | (refine opk 9 rfl ?_; (refine ost_buildAr (l := valsO o) rfl (evP_cons (rfl : _ = Value.int .u64 _) (evP_cons (rfl : _ = Value.int .u64 _) (evP_cons (rfl : _ = Value.int .u64 _) (evP_cons (rfl : _ = Value.int .u64 _) (evP_cons (rfl : _ = Value.int .u64 _) (evP_cons (rfl : _ = Value.int .u64 _) (evP_cons (rfl : _ = Value.int .u64 _) evP_nil))))))) (by rfl) (by rfl) ?_)) | refine pvQ ?_ | (refine opk 3 rfl ?_; (refine ost_cmp rfl rfl rfl rfl (fun hc => ?_) (fun hc => ?_) <;> (simp only [cmpP] at hc; try exact prIQ))) | (refine opk 4 rfl ?_; (refine ost_cmp rfl rfl rfl rfl (fun hc => ?_) (fun hc => ?_) <;> (simp only [cmpP] at hc; try exact prIQ))) | (refine opk 9 rfl ?_; (refine ost_boxq H rfl ?_; clear H; intro bk wk H))) | refine Wc.seq ?_ | refine then_n ?_ | refine WL.nil ?_ | refine Wc.region ?_ | refine Wc.block ?_ | refine then_r ?_ | refine then_e ?_ | refine inb_e rfl ?_ | refine inb_o rfl ?_ | refine inb_n ?_ | refine inb_r ?_ | refine Wc.skip ?_ | refine Wc.exit ?_ | refine Wc.ret ?_ | refine Wc.cond_true rfl ?_ | refine Wc.cond_false rfl ?_)
    refine Wc.loopE (fun s0 m s w' => ∃ (k : Nat) (v : Value), m = 7 - k ∧ k ≤ 7 ∧ Agree [6, 35, 36, 37, 38, 39, 40, 41] s s0 ∧ s 35 = .int .i64 k ∧
      St w [] h0 h0 [wr b1 true 0 v (putsO o k), .blk bk (.cells (cOp o).toArray 67 (0, 0))] w') 7 ⟨0, _, rfl, by omega, Agree.refl _ _, rfl, H⟩ ?_
    clear H
    rintro m s w' ⟨k, v, rfl, hk, hA, e1, H⟩
    obtain ⟨j, rfl⟩ := hA.env1 e1
    clear hA e1
    have hL := putsO_len o k
    by_cases hlt : k < 7
    · have g2 := valsO_get o hlt
      have g2 : (valsO o)[(k : Int).toNat]? = some (.int .u64 (numsO o k)) := by rw [show (k : Int).toNat = k by omega]; exact g2
      have g3 := numsO_lt o k
      repeat' (first | ((first | refine WL.p rfl ?_ | refine WL.u ?_); first | (refine opk 1 rfl ?_; (refine ost_O (A := .both _ _) H rfl (by (exact ixQ)) (fun HO => pack_Num _ _ _ _ _ _ _ HO (numsO o k) (by omega) (by omega)) rfl ?_; clear H; rintro vk wk hfk Lk ⟨rfl, v3, rfl⟩ H; simp only [List.cons_append, List.nil_append, List.eraseIdx_cons_zero, List.eraseIdx_cons_succ] at H)) | refine pvQ ?_ | (refine opk 3 rfl ?_; (refine ost_cmp rfl rfl rfl rfl (fun hc => ?_) (fun hc => ?_) <;> (simp only [cmpP] at hc; try exact prIQ))) | (refine opk 4 rfl ?_; (refine ost_cmp rfl rfl rfl rfl (fun hc => ?_) (fun hc => ?_) <;> (simp only [cmpP] at hc; try exact prIQ))) | (refine opk 9 rfl ?_; (refine ost_boxq H rfl ?_; clear H; intro bk wk H))) | refine Wc.seq ?_ | refine then_n ?_ | refine WL.nil ?_ | refine Wc.region ?_ | refine Wc.block ?_ | refine then_r ?_ | refine then_e ?_ | refine inb_e rfl ?_ | refine inb_o rfl ?_ | refine inb_n ?_ | refine inb_r ?_ | refine Wc.skip ?_ | refine Wc.exit ?_ | refine Wc.ret ?_ | refine Wc.cond_true rfl ?_ | refine Wc.cond_false rfl ?_)
      all_goals (rw [layE_ok (by have := putB_len (numsO o k); omega), ← putsO_succ] at H; exact ⟨7 - (k + 1), by omega, k + 1, v3, rfl, by omega, by (repeat' (first | exact Agree.refl _ _ | exact Agree.havoc | refine Agree.upd rfl ?_ | refine Agree.hav2 rfl ?_)), rfl, H⟩)
    · obtain rfl : k = 7 := by omega
      have hq := encV_len o.ctx
      have hf := fieldB_len (encV o.ctx)
      repeat' (first | ((first | refine WL.p rfl ?_ | refine WL.u ?_); first | (refine opk 1 rfl ?_; (refine ost_C H rfl (vec_Encode _ _ _ (sat_full _)) rfl ?_; clear H; rintro vk wk hfk Lk ⟨a1, c1, rfl, _, rfl⟩ H; simp only [List.cons_append, List.nil_append] at H)) | refine pvQ ?_ | (refine opk 3 rfl ?_; (refine ost_cmp rfl rfl rfl rfl (fun hc => ?_) (fun hc => ?_) <;> (simp only [cmpP] at hc; try exact prIQ))) | (refine opk 4 rfl ?_; (refine ost_cmp rfl rfl rfl rfl (fun hc => ?_) (fun hc => ?_) <;> (simp only [cmpP] at hc; try exact prIQ))) | (refine opk 9 rfl ?_; (refine ost_boxq H rfl ?_; clear H; intro bk wk H))) | refine Wc.seq ?_ | refine then_n ?_ | refine WL.nil ?_ | refine Wc.region ?_ | refine Wc.block ?_ | refine then_r ?_ | refine then_e ?_ | refine inb_e rfl ?_ | refine inb_o rfl ?_ | refine inb_n ?_ | refine inb_r ?_ | refine Wc.skip ?_ | refine Wc.exit ?_ | refine Wc.ret ?_ | refine Wc.cond_true rfl ?_ | refine Wc.cond_false rfl ?_)
      obtain ⟨a2, c2, h2, e2, hle2, hr2, H⟩ := H.freeze8
      cases e2
      repeat' (first | ((first | refine WL.p rfl ?_ | refine WL.u ?_); first | (refine opk 1 rfl ?_; (refine ost_H (A := wr _ _ _ _ _) H rfl (by (exact ixQ)) (fun HO => pack_Bytes _ _ _ _ _ _ _ HO _ _ _ hr2 (by omega) (by omega)) rfl ?_; clear H; rintro vk wk hfk Lk ⟨rfl, v2, rfl⟩ hle H; simp only [List.cons_append, List.nil_append, List.eraseIdx_cons_zero, List.eraseIdx_cons_succ] at H)) | refine pvQ ?_ | (refine opk 3 rfl ?_; (refine ost_cmp rfl rfl rfl rfl (fun hc => ?_) (fun hc => ?_) <;> (simp only [cmpP] at hc; try exact prIQ))) | (refine opk 4 rfl ?_; (refine ost_cmp rfl rfl rfl rfl (fun hc => ?_) (fun hc => ?_) <;> (simp only [cmpP] at hc; try exact prIQ))) | (refine opk 9 rfl ?_; (refine ost_boxq H rfl ?_; clear H; intro bk wk H))) | refine Wc.seq ?_ | refine then_n ?_ | refine WL.nil ?_ | refine Wc.region ?_ | refine Wc.block ?_ | refine then_r ?_ | refine then_e ?_ | refine inb_e rfl ?_ | refine inb_o rfl ?_ | refine inb_n ?_ | refine inb_r ?_ | refine Wc.skip ?_ | refine Wc.exit ?_ | refine Wc.ret ?_ | refine Wc.cond_true rfl ?_ | refine Wc.cond_false rfl ?_)
      have eo : putsO o 7 ++ fieldB (encV o.ctx) = encO o := rfl
      rw [layE_ok (by omega), eo] at H
      dsimp only at H
      have hel := encO_len o
      repeat' (first | ((first | refine WL.p rfl ?_ | refine WL.u ?_); first | (refine opk 1 rfl ?_; (refine ost_O (A := wr _ _ _ _ _) H rfl (by (exact ixQ)) (fun HO => pack_All0 _ _ _ _ _ _ HO (by omega) rfl) rfl ?_; clear H; rintro vk wk hfk Lk ⟨a4, c4, rfl, _, rfl⟩ H; simp only [List.cons_append, List.nil_append, List.eraseIdx_cons_zero, List.eraseIdx_cons_succ] at H)) | refine pvQ ?_ | (refine opk 3 rfl ?_; (refine ost_cmp rfl rfl rfl rfl (fun hc => ?_) (fun hc => ?_) <;> (simp only [cmpP] at hc; try exact prIQ))) | (refine opk 4 rfl ?_; (refine ost_cmp rfl rfl rfl rfl (fun hc => ?_) (fun hc => ?_) <;> (simp only [cmpP] at hc; try exact prIQ))) | (refine opk 9 rfl ?_; (refine ost_boxq H rfl ?_; clear H; intro bk wk H))) | refine Wc.seq ?_ | refine then_n ?_ | refine WL.nil ?_ | refine Wc.region ?_ | refine Wc.block ?_ | refine then_r ?_ | refine then_e ?_ | refine inb_e rfl ?_ | refine inb_o rfl ?_ | refine inb_n ?_ | refine inb_r ?_ | refine Wc.skip ?_ | refine Wc.exit ?_ | refine Wc.ret ?_ | refine Wc.cond_true rfl ?_ | refine Wc.cond_false rfl ?_)
      exact fn_ret2 (v1 := .slice _ _ _) (v2 := .int _ _) rfl rfl rfl ⟨_, _, (H.forget (fun k o e => hle _ _ (hle2 _ _ e)) (fun _ _ _ => rfl)).pick 0 rfl, _, _, rfl, rfl, rfl⟩
end Go.Tg

set_option linter.unusedVariables false
set_option linter.unusedSimpArgs false
set_option maxRecDepth 100000
set_option maxHeartbeats 4000000
namespace Go.Tg
open Go Go.Proofs
structure TkT where
  e : Int
  xs : List UInt8
  bad : Bool
def tkN (t : TkT) : Nat := (numE t.e t.xs).1
def tkS (t : TkT) (bits : Nat) : TkT := ⟨(numE t.e t.xs).2.2.1, (numE t.e t.xs).2.2.2, t.bad || !(decide ((numE t.e t.xs).2.1 = 0) && decide (tkN t / 2 ^ bits = 0))⟩
abbrev tkr (bt b : Nat) (t : TkT) (a : Option Addr) (c : Nat) : HA := .both (.blk bt (.cells [pt b, .bool t.bad].toArray 217 (0, 0))) (rdr b true t.e a t.xs.length c)
theorem tk_num (bt b : Nat) (t : TkT) (a : Option Addr) (c bits : Nat) (g : FH) (w : World) (HO : St w (tkr bt b t a c).fp g g [tkr bt b t a c] w) (hr : BS g a c t.xs) (hb : bits < 64) :
    Spec Tryd.prog 145 #[pt bt, .int .i64 bits] w (tkr bt b t a c).fp g (fun v' h' L' => v' = .int .u64 (tkN t) ∧ h' = g ∧ ∃ a' c', BS g a' c' (tkS t bits).xs ∧ L' = [tkr bt b (tkS t bits) a' c']) := by
  have H := HO.split
  have hn := numE_lt t.e t.xs
  unfold Spec
  refine calls_of Tryd.func145 rfl Tryd.ntmps145 (by simp) ?_
  repeat' (first | ((first | refine WL.p rfl ?_ | refine WL.u ?_ | refine WL.g rfl rfl ?_ | refine WL.gu rfl ?_); first | (refine opk 1 rfl ?_; (refine ost_H (A := rdr _ _ _ _ _ _) H rfl (by (exact ixQ)) (fun HO => rd_Num _ _ _ _ _ _ _ HO hr) rfl ?_; clear H; rintro vk wk hfk Lk ⟨rfl, rfl, a2, c2, hr2, rfl⟩ hle H; simp only [List.cons_append, List.nil_append, List.eraseIdx_cons_zero, List.eraseIdx_cons_succ] at H)) | refine pvQ ?_ | (refine opk 3 rfl ?_; (refine ost_cmp rfl rfl rfl rfl (fun hc => ?_) (fun hc => ?_) <;> (simp only [cmpP] at hc; try exact prIQ))) | (refine opk 4 rfl ?_; (refine ost_cmp rfl rfl rfl rfl (fun hc => ?_) (fun hc => ?_) <;> (simp only [cmpP] at hc; try exact prIQ))) | (refine opk 8 rfl ?_; (refine ost_store1 H rfl rfl vlQ gvQ ixQ (by first | decide | (simp; omega) | (simp; done) | omega) ?_; clear H; intro wk H; simp only [List.set_cons_zero, List.set_cons_succ, Nat.reduceAdd] at H))) | refine Wc.seq ?_ | refine then_n ?_ | refine WL.nil ?_ | refine Wc.region ?_ | refine Wc.block ?_ | refine then_r ?_ | refine then_e ?_ | refine inb_e rfl ?_ | refine inb_o rfl ?_ | refine inb_n ?_ | refine inb_r ?_ | refine Wc.skip ?_ | refine Wc.exit ?_ | refine Wc.ret ?_ | refine Wc.cond_true rfl ?_ | refine Wc.cond_false rfl ?_ | refine WL.skp rfl rfl ?_ | refine WL.sku rfl ?_)
  all_goals
    have hd : ((numE t.e t.xs).1 : Int).fdiv (2 ^ min (bits : Int).toNat IntKind.u64.bits) = ((tkN t / 2 ^ bits : Nat) : Int) := by
      rw [show min (bits : Int).toNat IntKind.u64.bits = bits by (have : IntKind.u64.bits = 64 := rfl); omega, Int.fdiv_eq_ediv_of_nonneg _ (Int.le_of_lt (Int.pow_pos (by decide)))]
      unfold tkN; simp
    simp only [hd] at *
  · have e : (tkS t bits).bad = true := by simp_all [tkS]
    exact fn_ret1 (v := .int _ _) rfl rfl ⟨_, _, (H.pick2 1 0 rfl rfl (by decide)).join, rfl, rfl, a2, c2, hr2, by simp only [tkr]; rw [e]; rfl⟩
  · have e : (tkS t bits).bad = true := by
      have : tkN t / 2 ^ bits ≠ 0 := by omega
      simp [tkS, this]
    exact fn_ret1 (v := .int _ _) rfl rfl ⟨_, _, (H.pick2 1 0 rfl rfl (by decide)).join, rfl, rfl, a2, c2, hr2, by simp only [tkr]; rw [e]; rfl⟩
  · have e : (tkS t bits).bad = t.bad := by
      have h1 : tkN t / 2 ^ bits = 0 := by omega
      have h2 : (numE t.e t.xs).2.1 = 0 := by omega
      simp [tkS, h1, h2]
    exact fn_ret1 (v := .int _ _) rfl rfl ⟨_, _, (H.pick2 1 0 rfl rfl (by decide)).join, rfl, rfl, a2, c2, hr2, by simp only [tkr]; rw [e]; rfl⟩
theorem tk_num8 (bt b : Nat) (t : TkT) (a : Option Addr) (c : Nat) (g : FH) (w : World) (HO : St w (tkr bt b t a c).fp g g [tkr bt b t a c] w) (hr : BS g a c t.xs) :
    Spec Tryd.prog 145 #[pt bt, .int .i64 8] w (tkr bt b t a c).fp g (fun v' h' L' => v' = .int .u64 (tkN t) ∧ h' = g ∧ ∃ a' c', BS g a' c' (tkS t 8).xs ∧ L' = [tkr bt b (tkS t 8) a' c']) := tk_num bt b t a c 8 g w HO hr (by decide)
theorem tk_num16 (bt b : Nat) (t : TkT) (a : Option Addr) (c : Nat) (g : FH) (w : World) (HO : St w (tkr bt b t a c).fp g g [tkr bt b t a c] w) (hr : BS g a c t.xs) :
    Spec Tryd.prog 145 #[pt bt, .int .i64 16] w (tkr bt b t a c).fp g (fun v' h' L' => v' = .int .u64 (tkN t) ∧ h' = g ∧ ∃ a' c', BS g a' c' (tkS t 16).xs ∧ L' = [tkr bt b (tkS t 16) a' c']) := tk_num bt b t a c 16 g w HO hr (by decide)
theorem tk_num32 (bt b : Nat) (t : TkT) (a : Option Addr) (c : Nat) (g : FH) (w : World) (HO : St w (tkr bt b t a c).fp g g [tkr bt b t a c] w) (hr : BS g a c t.xs) :
    Spec Tryd.prog 145 #[pt bt, .int .i64 32] w (tkr bt b t a c).fp g (fun v' h' L' => v' = .int .u64 (tkN t) ∧ h' = g ∧ ∃ a' c', BS g a' c' (tkS t 32).xs ∧ L' = [tkr bt b (tkS t 32) a' c']) := tk_num bt b t a c 32 g w HO hr (by decide)
theorem tk_sound {t : TkT} {bits : Nat} (hb : (tkS t bits).bad = false) (he : (tkS t bits).e = 0) (hb9 : 0 < 2 ^ bits) : t.bad = false ∧ t.e = 0 ∧ t.xs = putB (tkN t) ++ (tkS t bits).xs ∧ tkN t < 2 ^ bits := by
  simp only [tkS, Bool.or_eq_false_iff, Bool.not_eq_false', Bool.and_eq_true, decide_eq_true_eq] at hb
  obtain ⟨h1, h2, h3⟩ := hb
  have h0 : t.e = 0 := Classical.byContradiction fun h => by rw [numE_err h] at h2; exact h h2
  refine ⟨h1, h0, ?_, by rcases Nat.div_eq_zero_iff.1 h3 with h | h <;> omega⟩
  have := numE_inv (xs := t.xs) (by rw [h0] at h2; exact h2)
  unfold tkN tkS; rw [h0]; exact this
theorem tk_full {t : TkT} {bits n : Nat} {r : List UInt8} (he : t.e = 0) (hb : t.bad = false) (hx : t.xs = putB n ++ r) (hn : n < 18446744073709551616) (hn2 : n < 2 ^ bits) : tkN t = n ∧ tkS t bits = ⟨0, r, false⟩ := by
  have h1 := numE_putB n hn r
  rw [← hx, ← he] at h1
  have h2 : tkN t = n := by unfold tkN; rw [h1]
  refine ⟨h2, ?_⟩
  unfold tkS; rw [h2, h1, hb, he, Nat.div_eq_of_lt hn2]; rfl
open Classical in
noncomputable def decO (b : List UInt8) : OpT × Int := if h : ∃ o, rightO o 16 = true ∧ encO o = b then (h.choose, 0) else (⟨⟨0, 0⟩, 0, 0, 0, 0, 0, fun _ => 0⟩, 5)
def zeroO : OpT := ⟨⟨0, 0⟩, 0, 0, 0, 0, 0, fun _ => 0⟩
def DecO (b : List UInt8) (x : OpT) (e : Int) : Prop := (e = 0 ∧ rightO x 16 = true ∧ encO x = b) ∨ (e = 5 ∧ x = zeroO ∧ ∀ u, rightO u 16 = true → encO u ≠ b)
theorem nums_inj {u v : OpT} : ∀ (d k : Nat), 7 - k = d → k ≤ 7 → (r s : List UInt8) → ((List.range (7 - k)).map fun i => putB (numsO u (k + i))).flatten ++ r = ((List.range (7 - k)).map fun i => putB (numsO v (k + i))).flatten ++ s → (∀ i, k ≤ i → i < 7 → numsO u i = numsO v i) ∧ r = s
  | 0, k, h1, h2, r, s, h => by
    obtain rfl : k = 7 := by omega
    exact ⟨fun i _ _ => by omega, h⟩
  | d + 1, k, h1, h2, r, s, h => by
    rw [h1, List.range_succ_eq_map] at h
    simp only [List.map_cons, List.map_map, List.flatten_cons, Nat.add_zero, List.append_assoc] at h
    have hu := numsO_lt u k; have hv := numsO_lt v k
    obtain ⟨h3, h4⟩ := putB_app_inj (by omega) (by omega) h
    obtain ⟨h5, h6⟩ := nums_inj d (k + 1) (by omega) (by omega) r s (by
      rw [show 7 - (k + 1) = d by omega]
      simpa [Function.comp_def, Nat.add_assoc, Nat.add_comm 1] using h4)
    exact ⟨fun i h7 h8 => by
      by_cases hik : i = k
      · subst hik; exact h3
      · exact h5 i (by omega) h8, h6⟩
theorem encO_inj {u v : OpT} (h : encO u = encO v) : u = v := by
  have h0 : ((List.range (7 - 0)).map fun i => putB (numsO u (0 + i))).flatten ++ fieldB (encV u.ctx) = ((List.range (7 - 0)).map fun i => putB (numsO v (0 + i))).flatten ++ fieldB (encV v.ctx) := by
    simpa [encO, putsO] using h
  obtain ⟨h1, h2⟩ := nums_inj 7 0 rfl (by omega) _ _ h0
  have hu := encV_len u.ctx; have hv := encV_len v.ctx
  obtain ⟨h3, h4⟩ := putB_app_inj (by omega) (by omega) h2
  have h5 := encV_inj h4
  have e0 := h1 0 (by omega) (by omega); have e1 := h1 1 (by omega) (by omega); have e2 := h1 2 (by omega) (by omega); have e3 := h1 3 (by omega) (by omega)
  have e4 := h1 4 (by omega) (by omega); have e5 := h1 5 (by omega) (by omega); have e6 := h1 6 (by omega) (by omega)
  simp only [numsO] at e0 e1 e2 e3 e4 e5 e6
  simp at e0 e1 e2 e3 e4 e5 e6
  obtain ⟨⟨_, _⟩, _, _, _, _, _, _⟩ := u
  obtain ⟨⟨_, _⟩, _, _, _, _, _, _⟩ := v
  simp_all [UInt8.toNat_inj, UInt16.toNat_inj, UInt32.toNat_inj]
theorem DecO.unique {b : List UInt8} {x y : OpT} {e f : Int} (h : DecO b x e) (k : DecO b y f) : x = y ∧ e = f := by
  rcases h with ⟨h1, h2, h3⟩ | ⟨h1, h2, h3⟩ <;> rcases k with ⟨k1, k2, k3⟩ | ⟨k1, k2, k3⟩
  · exact ⟨encO_inj (h3.trans k3.symm), h1.trans k1.symm⟩
  · exact absurd h3 (k3 _ h2)
  · exact absurd k3 (h3 _ k2)
  · exact ⟨h2.trans k2.symm, h1.trans k1.symm⟩
theorem decO_spec (b : List UInt8) : DecO b (decO b).1 (decO b).2 := by
  unfold decO
  split
  · rename_i h; exact .inl ⟨rfl, h.choose_spec.1, h.choose_spec.2⟩
  · rename_i h; exact .inr ⟨rfl, rfl, fun u hr hu => h ⟨u, hr, hu⟩⟩
theorem decO_fin {b : List UInt8} {x : OpT} {e : Int} {l : List Value} (h : DecO b x e) (hl : l = cOp x) : Value.tuple #[.agg l.toArray, .int .i64 e] = .tuple #[.agg (cOp (decO b).1).toArray, .int .i64 (decO b).2] := by
  obtain ⟨h1, h2⟩ := h.unique (decO_spec b)
  rw [hl, h1, h2]
def bitsO (k : Nat) : Nat := if k = 0 then 8 else if k = 1 then 32 else if k = 2 then 8 else if k = 3 then 16 else if k = 4 then 16 else if k = 5 then 16 else 32
def tk7 (b : List UInt8) : Nat → TkT
  | 0 => ⟨0, b, false⟩
  | k + 1 => tkS (tk7 b k) (bitsO k)
theorem numsO_lt2 (o : OpT) (k : Nat) : numsO o k < 2 ^ bitsO k := by
  have h1 := o.dot.rep.toNat_lt; have h2 := o.dot.seq.toNat_lt; have h3 := o.kind.toNat_lt; have h4 := o.cart.toNat_lt; have h5 := o.item.toNat_lt; have h6 := o.qty.toNat_lt; have h7 := o.tick.toNat_lt
  unfold numsO bitsO; repeat' split
  all_goals omega
def tailO (u : OpT) (k : Nat) : List UInt8 := ((List.range (7 - k)).map fun i => putB (numsO u (k + i))).flatten
theorem tailO_step {u : OpT} {k : Nat} (h : k < 7) : tailO u k = putB (numsO u k) ++ tailO u (k + 1) := by
  obtain ⟨d, hd⟩ : ∃ d, 7 - k = d + 1 := ⟨6 - k, by omega⟩
  unfold tailO
  rw [hd, show 7 - (k + 1) = d by omega, List.range_succ_eq_map]
  simp [Function.comp_def, Nat.add_assoc, Nat.add_comm 1]
theorem tk7_full {b : List UInt8} {u : OpT} (h : encO u = b) : ∀ k, k ≤ 7 → tk7 b k = ⟨0, tailO u k ++ fieldB (encV u.ctx), false⟩
  | 0, _ => by
    show (⟨0, b, false⟩ : TkT) = _
    rw [← h]; unfold encO putsO tailO; simp
  | k + 1, hk => by
    have ih := tk7_full h k (by omega)
    have hn := numsO_lt u k
    have := (tk_full (t := tk7 b k) (bits := bitsO k) (n := numsO u k) (r := tailO u (k + 1) ++ fieldB (encV u.ctx)) (by rw [ih]) (by rw [ih]) (by rw [ih, tailO_step (by omega), List.append_assoc]) (by omega) (numsO_lt2 u k)).2
    exact this
theorem tk7_num {b : List UInt8} {u : OpT} (h : encO u = b) {k : Nat} (hk : k < 7) : tkN (tk7 b k) = numsO u k := by
  have ih := tk7_full h k (by omega)
  have hn := numsO_lt u k
  exact (tk_full (t := tk7 b k) (bits := bitsO k) (n := numsO u k) (r := tailO u (k + 1) ++ fieldB (encV u.ctx)) (by rw [ih]) (by rw [ih]) (by rw [ih, tailO_step hk, List.append_assoc]) (by omega) (numsO_lt2 u k)).1
theorem tk7_end {b : List UInt8} {u : OpT} (h : encO u = b) : tk7 b 7 = ⟨0, fieldB (encV u.ctx), false⟩ := by
  rw [tk7_full h 7 (by omega)]; simp [tailO]
theorem tk7_clean {b : List UInt8} (hb : (tk7 b 7).bad = false) (he : (tk7 b 7).e = 0) : ∀ d k, 7 - k = d → k ≤ 7 → (tk7 b k).bad = false ∧ (tk7 b k).e = 0
  | 0, k, h1, h2 => by obtain rfl : k = 7 := by omega
                       exact ⟨hb, he⟩
  | d + 1, k, h1, h2 => by
    obtain ⟨h3, h4⟩ := tk7_clean hb he d (k + 1) (by omega) (by omega)
    obtain ⟨h5, h6, -⟩ := tk_sound (t := tk7 b k) (bits := bitsO k) h3 h4 (Nat.two_pow_pos _)
    exact ⟨h5, h6⟩
theorem tk7_sound {b : List UInt8} (hb : (tk7 b 7).bad = false) (he : (tk7 b 7).e = 0) : ∀ k, k ≤ 7 → b = ((List.range k).map fun i => putB (tkN (tk7 b i))).flatten ++ (tk7 b k).xs
  | 0, _ => rfl
  | k + 1, hk => by
    obtain ⟨h3, h4⟩ := tk7_clean hb he _ (k + 1) rfl hk
    obtain ⟨-, -, h5, -⟩ := tk_sound (t := tk7 b k) (bits := bitsO k) h3 h4 (Nat.two_pow_pos _)
    have ih := tk7_sound hb he k (by omega)
    rw [List.range_succ, List.map_append, List.flatten_append]
    simp only [List.map_cons, List.map_nil, List.flatten_cons, List.flatten_nil, List.append_nil, List.append_assoc]
    rw [h5] at ih; exact ih
theorem tk7_lt {b : List UInt8} (hb : (tk7 b 7).bad = false) (he : (tk7 b 7).e = 0) {k : Nat} (hk : k < 7) : tkN (tk7 b k) < 2 ^ bitsO k := by
  obtain ⟨h3, h4⟩ := tk7_clean hb he _ (k + 1) rfl hk
  exact (tk_sound (t := tk7 b k) (bits := bitsO k) h3 h4 (Nat.two_pow_pos _)).2.2.2
theorem tk7_len (b : List UInt8) : ∀ k, (tk7 b k).xs.length ≤ b.length
  | 0 => Nat.le_refl _
  | k + 1 => Nat.le_trans (numE_len _ _) (tk7_len b k)
def opN (f : Nat → Nat) (v : V16) : OpT := ⟨⟨UInt8.ofNat (f 0), UInt32.ofNat (f 1)⟩, UInt8.ofNat (f 2), UInt16.ofNat (f 3), UInt16.ofNat (f 4), UInt16.ofNat (f 5), UInt32.ofNat (f 6), v⟩
theorem opN_nums {f : Nat → Nat} {v : V16} (h : ∀ k, k < 7 → f k < 2 ^ bitsO k) {k : Nat} (hk : k < 7) : numsO (opN f v) k = f k := by
  have h0 := h 0 (by omega); have h1 := h 1 (by omega); have h2 := h 2 (by omega); have h3 := h 3 (by omega); have h4 := h 4 (by omega); have h5 := h 5 (by omega); have h6 := h 6 (by omega)
  simp only [bitsO] at h0 h1 h2 h3 h4 h5 h6
  simp at h0 h1 h2 h3 h4 h5 h6
  match k, hk with
  | 0, _ => show (UInt8.ofNat (f 0)).toNat = _; simp; omega
  | 1, _ => show (UInt32.ofNat (f 1)).toNat = _; simp; omega
  | 2, _ => show (UInt8.ofNat (f 2)).toNat = _; simp; omega
  | 3, _ => show (UInt16.ofNat (f 3)).toNat = _; simp; omega
  | 4, _ => show (UInt16.ofNat (f 4)).toNat = _; simp; omega
  | 5, _ => show (UInt16.ofNat (f 5)).toNat = _; simp; omega
  | 6, _ => show (UInt32.ofNat (f 6)).toNat = _; simp; omega
theorem opN_of (u : OpT) {f : Nat → Nat} (h : ∀ k, k < 7 → f k = numsO u k) : opN f u.ctx = u := by
  unfold opN
  rw [h 0 (by omega), h 1 (by omega), h 2 (by omega), h 3 (by omega), h 4 (by omega), h 5 (by omega), h 6 (by omega)]
  simp [numsO]
theorem opN_enc {f : Nat → Nat} {v : V16} (h : ∀ k, k < 7 → f k < 2 ^ bitsO k) : encO (opN f v) = ((List.range 7).map fun i => putB (f i)).flatten ++ fieldB (encV v) := by
  unfold encO putsO
  congr 2
  exact List.map_congr_left fun i hi => by rw [opN_nums h (List.mem_range.1 hi)]
theorem u8_wrap (y : Nat) : Value.int .u8 (IntKind.u8.wrap y) = .int .u8 (UInt8.ofNat y).toNat := by
  simp [IntKind.wrap, IntKind.bits, IntKind.signed]
theorem u16_wrap (y : Nat) : Value.int .u16 (IntKind.u16.wrap y) = .int .u16 (UInt16.ofNat y).toNat := by
  simp [IntKind.wrap, IntKind.bits, IntKind.signed]
theorem u32_wrap2 (y : Nat) : Value.int .u32 (IntKind.u32.wrap y) = .int .u32 (UInt32.ofNat y).toNat := by
  simp [IntKind.wrap, IntKind.bits, IntKind.signed]
theorem bytesE_inv {xs : List UInt8} (h : (bytesE 0 xs).2.1 = 0) : xs = fieldB (bytesE 0 xs).1 ++ (bytesE 0 xs).2.2.2 := by
  unfold bytesE at h ⊢
  by_cases h1 : (numE 0 xs).2.1 ≠ 0
  · rw [if_pos h1] at h; exact absurd h h1
  · rw [if_neg h1] at h ⊢
    have h0 : (numE 0 xs).2.1 = 0 := by omega
    by_cases h2 : (numE 0 xs).2.2.2.length < (numE 0 xs).1
    · rw [if_pos h2] at h; exact absurd h (by simp)
    · rw [if_neg h2]
      dsimp only
      unfold fieldB
      rw [List.length_take, Nat.min_eq_left (by omega), List.append_assoc, List.take_append_drop]
      exact numE_inv h0
theorem bytesE_err {e : Int} {xs : List UInt8} (h : (bytesE e xs).2.1 = 0) : e = 0 := Classical.byContradiction fun he => by
  unfold bytesE at h
  rw [numE_err he] at h
  rw [if_pos he] at h
  exact he h
theorem bytesE_len (e : Int) (xs : List UInt8) : (bytesE e xs).1.length ≤ xs.length := by
  have := numE_len e xs
  unfold bytesE
  split
  · simp
  · split
    · simp
    · simp only [List.length_take]; omega
theorem cOp_put (x : OpT) (v : V16) : (cOp x).take (0 + 7) ++ cV v ++ (cOp x).drop (0 + 7 + (cV v).length) = cOp { x with ctx := v } := by
  have h1 : (cOp x).drop (0 + 7 + (cV v).length) = [] := List.drop_eq_nil_of_le (by rw [cOp_len, cV_len]; omega)
  rw [h1, List.append_nil]; rfl
end Go.Tg

set_option linter.unusedVariables false
set_option linter.unusedSimpArgs false
set_option maxRecDepth 100000
set_option maxHeartbeats 4000000
namespace Go.Tg
open Go Go.Proofs
def tkL : TkT → List Nat → TkT
  | t, [] => t
  | t, b :: bs => tkL (tkS t b) bs
def tkV : TkT → List Nat → List Nat
  | _, [] => []
  | t, b :: bs => tkN t :: tkV (tkS t b) bs
def fits : List Nat → List Nat → Prop
  | [], [] => True
  | n :: ns, b :: bs => n < 2 ^ b ∧ fits ns bs
  | _, _ => False
theorem tkL_full {t : TkT} {l ns : List Nat} {r : List UInt8} (he : t.e = 0) (hb : t.bad = false) (hx : t.xs = numsB ns ++ r) (hf : fits ns l) (h64 : ∀ b, b ∈ l → b < 64) : tkV t l = ns ∧ tkL t l = ⟨0, r, false⟩ := by
  induction l generalizing t ns with
  | nil =>
    cases ns with
    | nil =>
      refine ⟨rfl, ?_⟩
      obtain ⟨e, xs, bad⟩ := t
      simp only [numsB_nil, List.nil_append] at he hb hx
      subst he; subst hb; subst hx; rfl
    | cons n ns => exact hf.elim
  | cons b l ih =>
    cases ns with
    | nil => exact hf.elim
    | cons n ns =>
      obtain ⟨h1, h2⟩ := hf
      rw [numsB_cons, List.append_assoc] at hx
      have h3 : n < 18446744073709551616 := Nat.lt_trans h1 (Nat.pow_lt_pow_right (a := 2) (by decide) (h64 b (by simp)))
      obtain ⟨h4, h5⟩ := tk_full he hb hx h3 h1
      obtain ⟨h6, h7⟩ := ih (t := tkS t b) (by rw [h5]) (by rw [h5]) (by rw [h5]) h2 fun x hx => h64 x (by simp [hx])
      exact ⟨by rw [tkV, h4, h6], h7⟩
def bitsR (lf : Bool) : List Nat := [16, 8, 32] ++ (if lf = true then [32, 32] else [32])
def rowT (lf : Bool) (t : TkT) : Nat → TkT
  | 0 => t
  | k + 1 => tkL (rowT lf t k) (bitsR lf)
def keyA (v : List Nat) : KeyT := ⟨UInt16.ofNat (v.getD 0 0), ⟨UInt8.ofNat (v.getD 1 0), UInt32.ofNat (v.getD 2 0)⟩⟩
def locA (v : List Nat) : LocT := ⟨UInt32.ofNat (v.getD 3 0), UInt32.ofNat (v.getD 4 0)⟩
def kidA (v : List Nat) : UInt32 := UInt32.ofNat (v.getD 3 0)
def rowV (lf : Bool) (t : TkT) (k : Nat) : List Nat := tkV (rowT lf t k) (bitsR lf)
def keysA (lf : Bool) (t : TkT) (k : Nat) : List KeyT := (List.range k).map fun i => keyA (rowV lf t i)
def locsA (lf : Bool) (t : TkT) (k : Nat) : List LocT := if lf = true then (List.range k).map fun i => locA (rowV lf t i) else []
def kidsA (lf : Bool) (t : TkT) (k : Nat) : List UInt32 := if lf = true then [] else (List.range k).map fun i => kidA (rowV lf t i)
theorem keysA_len (lf : Bool) (t : TkT) (k : Nat) : (keysA lf t k).length = k := by simp [keysA]
def tkA (f : List UInt8) : TkT := ⟨0, f, false⟩
def lfA (f : List UInt8) : Bool := decide ((UInt32.ofNat (tkN (tkA f))).toNat = 1)
def cntA (f : List UInt8) : Nat := (UInt32.ofNat (tkN (tkS (tkA f) 1))).toNat
def tk2A (f : List UInt8) : TkT := tkS (tkS (tkA f) 1) 4
def mA (f : List UInt8) : Nat := min (cntA f) 9
def endA (f : List UInt8) : TkT := rowT (lfA f) (tk2A f) (mA f)
def pageA (f : List UInt8) : PageT := ⟨lfA f, keysA (lfA f) (tk2A f) (mA f), locsA (lfA f) (tk2A f) (mA f), kidsA (lfA f) (tk2A f) (mA f)⟩
theorem rowT_full {lf : Bool} {t : TkT} {n : Nat} {v : Nat → List Nat} {r : List UInt8} (he : t.e = 0) (hb : t.bad = false) (hx : t.xs = numsB ((List.range n).map v).flatten ++ r) (hf : ∀ i, i < n → fits (v i) (bitsR lf)) :
    ∀ k, k ≤ n → (∀ i, i < k → rowV lf t i = v i) ∧ rowT lf t k = ⟨0, numsB ((List.range (n - k)).map fun i => v (k + i)).flatten ++ r, false⟩
  | 0, _ => ⟨fun i h => absurd h (by omega), by
    obtain ⟨e, xs, bad⟩ := t
    simp only at he hb hx
    subst he; subst hb; subst hx
    simp [rowT]⟩
  | k + 1, hk => by
    obtain ⟨h1, h2⟩ := rowT_full he hb hx hf k (by omega)
    have e9 : (List.range (n - k)).map (fun i => v (k + i)) = v k :: (List.range (n - (k + 1))).map fun i => v (k + 1 + i) := by
      rw [show n - k = (n - (k + 1)) + 1 by omega, List.range_succ_eq_map]
      simp only [List.map_cons, List.map_map, Nat.add_zero, List.cons.injEq, true_and]
      apply List.map_congr_left
      intro i _
      show v (k + (i + 1)) = _
      congr 1; omega
    rw [e9, List.flatten_cons, numsB_app, List.append_assoc] at h2
    obtain ⟨h3, h4⟩ := tkL_full (t := rowT lf t k) (l := bitsR lf) (ns := v k) (by rw [h2]) (by rw [h2]) (by rw [h2]) (hf k (by omega)) (by cases lf <;> decide)
    refine ⟨fun i hi => ?_, h4⟩
    by_cases hik : i = k
    · subst hik; exact h3
    · exact h1 i (by omega)
end Go.Tg

