/- Contracts of Go functions that the laws reach: what each call answers and leaves in memory, for all arguments within the bounds that each theorem names. -/
import Derived.Test.YtajfhoeejeadkaaDoorInst
import Derived.Test.YtajfhoeejeadkaaDoorAuto
import Derived.Test.YtajfhoeejeadkaaDoorV2
set_option linter.unusedVariables false
set_option linter.unusedSimpArgs false
set_option maxRecDepth 100000
set_option maxHeartbeats 4000000
namespace Go.Tg
open Go Go.Proofs
abbrev wr (b : Nat) (made : Bool) (e : Int) (v : Value) (xs : List UInt8) : HA := .both (.blk b (.cells [.bool made, .int .i64 e, v].toArray 185 (0, 0))) (own8 v 5 xs)
abbrev pt (b : Nat) : Value := .pointer (some ⟨b, 0, none⟩)
theorem pack_New (h0 : FH) (w : World) (hs : Sat h0 w) :
    Spec Tryd.prog 64 #[] w [] h0 (fun v h' L' => ∃ b, v = pt b ∧ L' = [wr b true 0 (.slice none 0 0) []]) := by
  have H := St.start hs
  unfold Spec
  refine calls_of Tryd.func64 rfl Tryd.ntmps64 (by simp) ?_
  repeat' (first | ((first | refine WL.p rfl ?_ | refine WL.u ?_); first | refine pvQ ?_ | (refine opk 9 rfl ?_; (refine ost_boxq H rfl ?_; clear H; intro bk wk H))) | refine Wc.seq ?_ | refine then_n ?_ | refine WL.nil ?_ | refine Wc.region ?_ | refine Wc.block ?_ | refine then_r ?_ | refine then_e ?_ | refine inb_e rfl ?_ | refine inb_o rfl ?_ | refine inb_n ?_ | refine inb_r ?_ | refine Wc.skip ?_ | refine Wc.exit ?_ | refine Wc.ret ?_ | refine Wc.cond_true rfl ?_ | refine Wc.cond_false rfl ?_)
  exact fn_ret1 (v := .pointer _) rfl rfl ⟨_, _, ((H.nil8 5).pick2 1 0 rfl rfl (by decide)).join, _, rfl, rfl⟩
theorem stop_fail (b : Nat) (x e : Int) (v : Value) (made : Bool) (T : TypeId) (g : FH) (w : World) (H : St w [b] g g [.blk b (.cells [.bool made, .int .i64 e, v].toArray T (0, 0))] w) (hx : e = 0) :
    Spec Tryd.prog 133 #[pt b, .int .i64 x] w [b] g (fun v' h' L' => v' = .int .i64 x ∧ L' = [.blk b (.cells [.bool made, .int .i64 x, v].toArray T (0, 0))]) := by
  unfold Spec
  refine calls_of Tryd.func133 rfl Tryd.ntmps133 (by simp) ?_
  subst hx
  repeat' (first | ((first | refine WL.p rfl ?_ | refine WL.u ?_); first | refine pvQ ?_ | (refine opk 3 rfl ?_; (refine ost_cmp rfl rfl rfl rfl (fun hc => ?_) (fun hc => ?_) <;> (simp only [cmpP] at hc; try exact prIQ))) | (refine opk 4 rfl ?_; (refine ost_cmp rfl rfl rfl rfl (fun hc => ?_) (fun hc => ?_) <;> (simp only [cmpP] at hc; try exact prIQ))) | (refine opk 8 rfl ?_; (refine ost_store1 H rfl rfl vlQ gvQ ixQ (by first | decide | (simp; omega) | (simp; done) | omega) ?_; clear H; intro wk H; simp only [List.set_cons_zero, List.set_cons_succ, Nat.reduceAdd] at H))) | refine Wc.seq ?_ | refine then_n ?_ | refine WL.nil ?_ | refine Wc.region ?_ | refine Wc.block ?_ | refine then_r ?_ | refine then_e ?_ | refine inb_e rfl ?_ | refine inb_o rfl ?_ | refine inb_n ?_ | refine inb_r ?_ | refine Wc.skip ?_ | refine Wc.exit ?_ | refine Wc.ret ?_ | refine Wc.cond_true rfl ?_ | refine Wc.cond_false rfl ?_)
  exact fn_ret1 (v := .int _ _) rfl rfl ⟨_, _, H, rfl, rfl⟩
def layE (made : Bool) (e : Int) (xs p : List UInt8) : Int × Int × List UInt8 :=
  if made = false then (1, e, xs) else if e ≠ 0 then (e, e, xs) else if xs.length + p.length > 65536 then (3, 3, xs) else (0, 0, xs ++ p)
theorem pack_lay (b : Nat) (made : Bool) (e : Int) (v : Value) (xs : List UInt8) (g : FH) (w : World) (HO : St w (wr b made e v xs).fp g g [wr b made e v xs] w)
    (a : Option Addr) (c : Nat) (vs : List Value) (pcs : List (List UInt8)) (hr : BL g a vs pcs) (hn : pcs.length ≤ 1000) (hb : pcs.flatten.length ≤ 1000000) (hx : xs.length ≤ 65536) :
    Spec Tryd.prog 114 #[pt b, .slice a pcs.length c] w (wr b made e v xs).fp g (fun v' h' L' =>
      v' = .int .i64 (layE made e xs pcs.flatten).1 ∧ ∃ v2, L' = [wr b made (layE made e xs pcs.flatten).2.1 v2 (layE made e xs pcs.flatten).2.2]) := by
  have H := HO.split
  obtain ⟨av, cv, rfl, -⟩ := H.own8BS (i := 1) rfl
  have hx2 : xs.length ≤ 65536 := hx
  unfold Spec
  refine calls_of Tryd.func114 rfl Tryd.ntmps114 (by simp) ?_
  cases made
  · repeat' (first | ((first | refine WL.p rfl ?_ | refine WL.u ?_ | refine WL.g rfl rfl ?_ | refine WL.gu rfl ?_); first | refine pvQ ?_ | (refine opk 3 rfl ?_; first | (refine ost_cmp rfl rfl rfl rfl (fun hc => ?_) (fun hc => ?_) <;> (simp only [cmpP] at hc; try exact prIQ)) | (refine ost_ptEq rfl rfl rfl (fun hc => ?_) (fun hc => ?_) <;> try (simp at hc; done)) | (refine ost_ptNe rfl rfl rfl (fun hc => ?_) (fun hc => ?_) <;> try (simp at hc; done))) | (refine opk 4 rfl ?_; (refine ost_cmp rfl rfl rfl rfl (fun hc => ?_) (fun hc => ?_) <;> (simp only [cmpP] at hc; try exact prIQ))) | (refine opk 8 rfl ?_; (refine ost_store1 H rfl rfl vlQ gvQ ixQ (by first | decide | (simp; omega) | (simp; done) | omega) ?_; clear H; intro wk H; simp only [List.set_cons_zero, List.set_cons_succ, Nat.reduceAdd] at H))) | refine Wc.seq ?_ | refine then_n ?_ | refine WL.nil ?_ | refine Wc.region ?_ | refine Wc.block ?_ | refine then_r ?_ | refine then_e ?_ | refine inb_e rfl ?_ | refine inb_o rfl ?_ | refine inb_n ?_ | refine inb_r ?_ | refine Wc.skip ?_ | refine Wc.exit ?_ | refine Wc.ret ?_ | refine Wc.cond_true rfl ?_ | refine Wc.cond_false rfl ?_ | refine WL.skp rfl rfl ?_ | refine WL.sku rfl ?_)
    exact fn_ret1 (v := .int _ _) rfl rfl ⟨_, _, HO, rfl, _, rfl⟩
  · by_cases he : e = 0
    · subst he
      by_cases hl : xs.length + pcs.flatten.length > 65536
      · have e1 : layE true 0 xs pcs.flatten = (3, 3, xs) := by simp only [layE]; rw [if_neg (by decide), if_neg (by decide), if_pos hl]
        rw [e1]
        repeat' (first | ((first | refine WL.p rfl ?_ | refine WL.u ?_ | refine WL.g rfl rfl ?_ | refine WL.gu rfl ?_); first | (refine opk 1 rfl ?_; first | (refine ost_C H rfl (concat8 _ _ _ _ _ _ (sat_full _) (hr.full H) hn hb) rfl ?_; clear H; rintro vk wk hfk Lk ⟨a1, c1, rfl, _, rfl⟩ H; simp only [List.cons_append, List.nil_append] at H) | (refine ost_O (A := .blk _ _) H rfl (by (exact ixQ)) (fun HO => stop_fail _ _ _ _ _ _ _ _ HO rfl) rfl ?_; clear H; rintro vk wk hfk Lk ⟨rfl, rfl⟩ H; simp only [List.cons_append, List.nil_append, List.eraseIdx_cons_zero, List.eraseIdx_cons_succ] at H)) | refine pvQ ?_ | (refine opk 3 rfl ?_; first | (refine ost_cmp rfl rfl rfl rfl (fun hc => ?_) (fun hc => ?_) <;> (simp only [cmpP] at hc; try exact prIQ)) | (refine ost_ptEq rfl rfl rfl (fun hc => ?_) (fun hc => ?_) <;> try (simp at hc; done)) | (refine ost_ptNe rfl rfl rfl (fun hc => ?_) (fun hc => ?_) <;> try (simp at hc; done))) | (refine opk 4 rfl ?_; (refine ost_cmp rfl rfl rfl rfl (fun hc => ?_) (fun hc => ?_) <;> (simp only [cmpP] at hc; try exact prIQ))) | (refine opk 8 rfl ?_; (refine ost_store1 H rfl rfl vlQ gvQ ixQ (by first | decide | (simp; omega) | (simp; done) | omega) ?_; clear H; intro wk H; simp only [List.set_cons_zero, List.set_cons_succ, Nat.reduceAdd] at H))) | refine Wc.seq ?_ | refine then_n ?_ | refine WL.nil ?_ | refine Wc.region ?_ | refine Wc.block ?_ | refine then_r ?_ | refine then_e ?_ | refine inb_e rfl ?_ | refine inb_o rfl ?_ | refine inb_n ?_ | refine inb_r ?_ | refine Wc.skip ?_ | refine Wc.exit ?_ | refine Wc.ret ?_ | refine Wc.cond_true rfl ?_ | refine Wc.cond_false rfl ?_ | refine WL.skp rfl rfl ?_ | refine WL.sku rfl ?_)
        exact fn_ret1 (v := .int _ _) rfl rfl ⟨_, _, (H.pick2 0 2 rfl rfl (by decide)).join, rfl, _, rfl⟩
      · have e1 : layE true 0 xs pcs.flatten = (0, 0, xs ++ pcs.flatten) := by simp only [layE]; rw [if_neg (by decide), if_neg (by decide), if_neg hl]
        rw [e1]
        repeat' (first | ((first | refine WL.p rfl ?_ | refine WL.u ?_ | refine WL.g rfl rfl ?_ | refine WL.gu rfl ?_); first | (refine opk 1 rfl ?_; first | (refine ost_C H rfl (concat8 _ _ _ _ _ _ (sat_full _) (hr.full H) hn hb) rfl ?_; clear H; rintro vk wk hfk Lk ⟨a1, c1, rfl, _, rfl⟩ H; simp only [List.cons_append, List.nil_append] at H) | (refine ost_app8 (xs := xs) H rfl rfl rfl (by (exact ixQ)) (H.own8rd (i := 0) rfl) (by (try simp only [List.length_nil, List.length_append, List.length_cons, List.length_singleton]); omega) ?_; clear H; intro aa ca wk H; simp only [List.set_cons_zero, List.set_cons_succ, List.nil_append] at H)) | refine pvQ ?_ | (refine opk 3 rfl ?_; first | (refine ost_cmp rfl rfl rfl rfl (fun hc => ?_) (fun hc => ?_) <;> (simp only [cmpP] at hc; try exact prIQ)) | (refine ost_ptEq rfl rfl rfl (fun hc => ?_) (fun hc => ?_) <;> try (simp at hc; done)) | (refine ost_ptNe rfl rfl rfl (fun hc => ?_) (fun hc => ?_) <;> try (simp at hc; done))) | (refine opk 4 rfl ?_; (refine ost_cmp rfl rfl rfl rfl (fun hc => ?_) (fun hc => ?_) <;> (simp only [cmpP] at hc; try exact prIQ))) | (refine opk 8 rfl ?_; (refine ost_store1 H rfl rfl vlQ gvQ ixQ (by first | decide | (simp; omega) | (simp; done) | omega) ?_; clear H; intro wk H; simp only [List.set_cons_zero, List.set_cons_succ, Nat.reduceAdd] at H))) | refine Wc.seq ?_ | refine then_n ?_ | refine WL.nil ?_ | refine Wc.region ?_ | refine Wc.block ?_ | refine then_r ?_ | refine then_e ?_ | refine inb_e rfl ?_ | refine inb_o rfl ?_ | refine inb_n ?_ | refine inb_r ?_ | refine Wc.skip ?_ | refine Wc.exit ?_ | refine Wc.ret ?_ | refine Wc.cond_true rfl ?_ | refine Wc.cond_false rfl ?_ | refine WL.skp rfl rfl ?_ | refine WL.sku rfl ?_)
        exact fn_ret1 (v := .int _ _) rfl rfl ⟨_, _, (H.pick2 1 2 rfl rfl (by decide)).join, rfl, _, rfl⟩
    · have e1 : layE true e xs pcs.flatten = (e, e, xs) := by simp only [layE]; rw [if_neg (by decide), if_pos he]
      rw [e1]
      repeat' (first | ((first | refine WL.p rfl ?_ | refine WL.u ?_ | refine WL.g rfl rfl ?_ | refine WL.gu rfl ?_); first | (refine opk 1 rfl ?_; (refine ost_C H rfl (concat8 _ _ _ _ _ _ (sat_full _) (hr.full H) hn hb) rfl ?_; clear H; rintro vk wk hfk Lk ⟨a1, c1, rfl, _, rfl⟩ H; simp only [List.cons_append, List.nil_append] at H)) | refine pvQ ?_ | (refine opk 3 rfl ?_; first | (refine ost_cmp rfl rfl rfl rfl (fun hc => ?_) (fun hc => ?_) <;> (simp only [cmpP] at hc; try exact prIQ)) | (refine ost_ptEq rfl rfl rfl (fun hc => ?_) (fun hc => ?_) <;> try (simp at hc; done)) | (refine ost_ptNe rfl rfl rfl (fun hc => ?_) (fun hc => ?_) <;> try (simp at hc; done))) | (refine opk 4 rfl ?_; (refine ost_cmp rfl rfl rfl rfl (fun hc => ?_) (fun hc => ?_) <;> (simp only [cmpP] at hc; try exact prIQ))) | (refine opk 8 rfl ?_; (refine ost_store1 H rfl rfl vlQ gvQ ixQ (by first | decide | (simp; omega) | (simp; done) | omega) ?_; clear H; intro wk H; simp only [List.set_cons_zero, List.set_cons_succ, Nat.reduceAdd] at H))) | refine Wc.seq ?_ | refine then_n ?_ | refine WL.nil ?_ | refine Wc.region ?_ | refine Wc.block ?_ | refine then_r ?_ | refine then_e ?_ | refine inb_e rfl ?_ | refine inb_o rfl ?_ | refine inb_n ?_ | refine inb_r ?_ | refine Wc.skip ?_ | refine Wc.exit ?_ | refine Wc.ret ?_ | refine Wc.cond_true rfl ?_ | refine Wc.cond_false rfl ?_ | refine WL.skp rfl rfl ?_ | refine WL.sku rfl ?_)
      exact fn_ret1 (v := .int _ _) rfl rfl ⟨_, _, (H.pick2 1 2 rfl rfl (by decide)).join, rfl, _, rfl⟩
theorem BL.two {w : World} {S : List Nat} {ws : World} {h0 h : FH} {L : List HA} (H : St ws S h0 h L w) {i j k b : Nat} {A : HA} {T T8 : TypeId} {v : Value} {xs : List UInt8} (hi : L[i]? = some A)
    (hj : L[j]? = some (.own (.slice (some ⟨b, 0, none⟩) 1 1) T 1 1 [v])) (hk : L[k]? = some (own8 v T8 xs)) (hij : i ≠ j) (hik : i ≠ k) : BL (less w A.fp) (some ⟨b, 0, none⟩) [v] [xs] := by
  obtain ⟨a, c, e, -, -, h, -⟩ := H.lessOwn hi hj hij
  injection e with e1 e2 e3
  subst e1
  exact ⟨h, rfl, fun n hn _ => by
    have : n = 0 := by simp at hn; omega
    subst this; exact H.lessBS hi hk hik⟩
theorem putL_len : ∀ (k n : Nat), (putL k n).length ≤ k + 1
  | 0, n => by simp [putL]
  | k + 1, n => by
    unfold putL; split
    · simp
    · have := putL_len k (n / 128); simp; omega
theorem putB_len (n : Nat) : (putB n).length ≤ 11 := putL_len 10 n
theorem pack_Num (b : Nat) (made : Bool) (e : Int) (v : Value) (xs : List UInt8) (g : FH) (w : World) (HO : St w (wr b made e v xs).fp g g [wr b made e v xs] w) (n : Nat) (hn : n < 18446744073709551616) (hx : xs.length ≤ 65536) :
    Spec Tryd.prog 65 #[pt b, .int .u64 n] w (wr b made e v xs).fp g (fun v' h' L' =>
      v' = .int .i64 (layE made e xs (putB n)).1 ∧ ∃ v2, L' = [wr b made (layE made e xs (putB n)).2.1 v2 (layE made e xs (putB n)).2.2]) := by
  have H := HO
  have hp := putB_len n
  unfold Spec
  refine calls_of Tryd.func65 rfl Tryd.ntmps65 (by simp) ?_
  repeat' (first | ((first | refine WL.p rfl ?_ | refine WL.u ?_); first | (refine opk 1 rfl ?_; first | (refine ost_C H rfl (vint_Put n hn _ _ (sat_full _)) rfl ?_; clear H; rintro vk wk hfk Lk ⟨a1, c1, rfl, _, rfl⟩ H; simp only [List.cons_append, List.nil_append] at H) | (refine ost_O (A := .both _ _) H rfl (by (exact ixQ)) (fun HO => pack_lay _ _ _ _ _ _ _ HO _ _ _ [putB n] (BL.two H idx2 idx0 idx1 (by decide) (by decide)) (by simp) (by simp; omega) hx) rfl ?_; clear H; rintro vk wk hfk Lk ⟨rfl, v2, rfl⟩ H; simp only [List.cons_append, List.nil_append, List.eraseIdx_cons_zero, List.eraseIdx_cons_succ] at H)) | refine pvQ ?_ | (refine opk 9 rfl ?_; (refine ost_build1 H rfl rfl rfl evQ lsQ rfl ?_; clear H; intro bk wk H))) | refine Wc.seq ?_ | refine then_n ?_ | refine WL.nil ?_ | refine Wc.region ?_ | refine Wc.block ?_ | refine then_r ?_ | refine then_e ?_ | refine inb_e rfl ?_ | refine inb_o rfl ?_ | refine inb_n ?_ | refine inb_r ?_ | refine Wc.skip ?_ | refine Wc.exit ?_ | refine Wc.ret ?_ | refine Wc.cond_true rfl ?_ | refine Wc.cond_false rfl ?_)
  have ef : [putB n].flatten = putB n := by simp
  exact fn_ret1 (v := .int _ _) rfl rfl ⟨_, _, H.pick 0 rfl, by rw [ef], _, by rw [ef]⟩
theorem layE_ok {xs p : List UInt8} (h : xs.length + p.length ≤ 65536) : layE true 0 xs p = (0, 0, xs ++ p) := by
  simp only [layE]; rw [if_neg (by decide), if_neg (by decide), if_neg (by omega)]
end Go.Tg

