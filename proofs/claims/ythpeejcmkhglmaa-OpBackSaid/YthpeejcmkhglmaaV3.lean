/- Contracts of Go functions that the laws reach: what each call answers and leaves in memory, for all arguments within the bounds that each theorem names. -/
import Derived.Test.YthpeejcmkhglmaaInst
import Derived.Test.YthpeejcmkhglmaaAuto
import Derived.Test.YthpeejcmkhglmaaV2
set_option linter.unusedVariables false
set_option linter.unusedSimpArgs false
set_option maxRecDepth 100000
set_option maxHeartbeats 4000000
namespace Go.Tg
open Go Go.Proofs
/-- A writer. -/
abbrev wr (b : Nat) (made : Bool) (e : Int) (v : Value) (xs : List UInt8) : HA := .both (.blk b (.cells [.bool made, .int .i64 e, v].toArray 57 (0, 0))) (own8 v 5 xs)
abbrev pt (b : Nat) : Value := .pointer (some ⟨b, 0, none⟩)
theorem pack_New (h0 : FH) (w : World) (hs : Sat h0 w) :
    Spec Try.prog 25 #[] w [] h0 (fun v h' L' => ∃ b, v = pt b ∧ L' = [wr b true 0 (.slice none 0 0) []]) := by
  have H := St.start hs
  unfold Spec
  refine calls_of Try.func25 rfl Try.ntmps25 (by simp) ?_
  repeat' (first | ((first | refine WL.p rfl ?_ | refine WL.u ?_); first | refine pv ?_ | (refine opk 9 rfl ?_; (refine ost_boxq H rfl ?_; clear H; intro bk wk H))) | refine Wc.seq ?_ | refine then_n ?_ | refine WL.nil ?_ | refine Wc.region ?_ | refine Wc.block ?_ | refine then_r ?_ | refine then_e ?_ | refine inb_e rfl ?_ | refine inb_o rfl ?_ | refine inb_n ?_ | refine inb_r ?_ | refine Wc.skip ?_ | refine Wc.exit ?_ | refine Wc.ret ?_ | refine Wc.cond_true rfl ?_ | refine Wc.cond_false rfl ?_)
  exact fn_ret1 (v := .pointer _) rfl rfl ⟨_, _, ((H.nil8 5).pick2 1 0 rfl rfl (by decide)).join, _, rfl, rfl⟩
theorem stop_fail (b : Nat) (x e : Int) (v : Value) (made : Bool) (T : TypeId) (g : FH) (w : World) (H : St w [b] g g [.blk b (.cells [.bool made, .int .i64 e, v].toArray T (0, 0))] w) (hx : e = 0) :
    Spec Try.prog 83 #[pt b, .int .i64 x] w [b] g (fun v' h' L' => v' = .int .i64 x ∧ L' = [.blk b (.cells [.bool made, .int .i64 x, v].toArray T (0, 0))]) := by
  unfold Spec
  refine calls_of Try.func83 rfl Try.ntmps83 (by simp) ?_
  subst hx
  repeat' (first | ((first | refine WL.p rfl ?_ | refine WL.u ?_); first | refine pv ?_ | (refine opk 3 rfl ?_; (refine ost_cmp rfl rfl rfl rfl (fun hc => ?_) (fun hc => ?_) <;> (simp only [cmpP] at hc; try exact prI))) | (refine opk 4 rfl ?_; (refine ost_cmp rfl rfl rfl rfl (fun hc => ?_) (fun hc => ?_) <;> (simp only [cmpP] at hc; try exact prI))) | (refine opk 8 rfl ?_; (refine ost_store1 H rfl rfl vlq gv ixq (by first | decide | (simp; omega) | (simp; done) | omega) ?_; clear H; intro wk H; simp only [List.set_cons_zero, List.set_cons_succ, Nat.reduceAdd] at H))) | refine Wc.seq ?_ | refine then_n ?_ | refine WL.nil ?_ | refine Wc.region ?_ | refine Wc.block ?_ | refine then_r ?_ | refine then_e ?_ | refine inb_e rfl ?_ | refine inb_o rfl ?_ | refine inb_n ?_ | refine inb_r ?_ | refine Wc.skip ?_ | refine Wc.exit ?_ | refine Wc.ret ?_ | refine Wc.cond_true rfl ?_ | refine Wc.cond_false rfl ?_)
  exact fn_ret1 (v := .int _ _) rfl rfl ⟨_, _, H, rfl, rfl⟩
/-- What a writer answers, the error that it has then, and its bytes. -/
def layE (made : Bool) (e : Int) (xs p : List UInt8) : Int × Int × List UInt8 :=
  if made = false then (1, e, xs) else if e ≠ 0 then (e, e, xs) else if xs.length + p.length > 65536 then (3, 3, xs) else (0, 0, xs ++ p)
theorem pack_lay (b : Nat) (made : Bool) (e : Int) (v : Value) (xs : List UInt8) (g : FH) (w : World) (HO : St w (wr b made e v xs).fp g g [wr b made e v xs] w)
    (a : Option Addr) (c : Nat) (vs : List Value) (pcs : List (List UInt8)) (hr : BL g a vs pcs) (hn : pcs.length ≤ 1000) (hb : pcs.flatten.length ≤ 1000000) (hx : xs.length ≤ 65536) :
    Spec Try.prog 98 #[pt b, .slice a pcs.length c] w (wr b made e v xs).fp g (fun v' h' L' =>
      v' = .int .i64 (layE made e xs pcs.flatten).1 ∧ ∃ v2, L' = [wr b made (layE made e xs pcs.flatten).2.1 v2 (layE made e xs pcs.flatten).2.2]) := by
  have H := HO.split
  obtain ⟨av, cv, rfl, -⟩ := H.own8BS (i := 1) rfl
  have hx2 : xs.length ≤ 65536 := hx
  unfold Spec
  refine calls_of Try.func98 rfl Try.ntmps98 (by simp) ?_
  cases made
  · repeat' (first | ((first | refine WL.p rfl ?_ | refine WL.u ?_ | refine WL.g rfl rfl ?_ | refine WL.gu rfl ?_); first | refine pv ?_ | (refine opk 3 rfl ?_; first | (refine ost_cmp rfl rfl rfl rfl (fun hc => ?_) (fun hc => ?_) <;> (simp only [cmpP] at hc; try exact prI)) | (refine ost_ptEq rfl rfl rfl (fun hc => ?_) (fun hc => ?_) <;> try (simp at hc; done)) | (refine ost_ptNe rfl rfl rfl (fun hc => ?_) (fun hc => ?_) <;> try (simp at hc; done))) | (refine opk 4 rfl ?_; (refine ost_cmp rfl rfl rfl rfl (fun hc => ?_) (fun hc => ?_) <;> (simp only [cmpP] at hc; try exact prI))) | (refine opk 8 rfl ?_; (refine ost_store1 H rfl rfl vlq gv ixq (by first | decide | (simp; omega) | (simp; done) | omega) ?_; clear H; intro wk H; simp only [List.set_cons_zero, List.set_cons_succ, Nat.reduceAdd] at H))) | refine Wc.seq ?_ | refine then_n ?_ | refine WL.nil ?_ | refine Wc.region ?_ | refine Wc.block ?_ | refine then_r ?_ | refine then_e ?_ | refine inb_e rfl ?_ | refine inb_o rfl ?_ | refine inb_n ?_ | refine inb_r ?_ | refine Wc.skip ?_ | refine Wc.exit ?_ | refine Wc.ret ?_ | refine Wc.cond_true rfl ?_ | refine Wc.cond_false rfl ?_ | refine WL.skp rfl rfl ?_ | refine WL.sku rfl ?_)
    exact fn_ret1 (v := .int _ _) rfl rfl ⟨_, _, HO, rfl, _, rfl⟩
  · by_cases he : e = 0
    · subst he
      by_cases hl : xs.length + pcs.flatten.length > 65536
      · have e1 : layE true 0 xs pcs.flatten = (3, 3, xs) := by simp only [layE]; rw [if_neg (by decide), if_neg (by decide), if_pos hl]
        rw [e1]
        repeat' (first | ((first | refine WL.p rfl ?_ | refine WL.u ?_ | refine WL.g rfl rfl ?_ | refine WL.gu rfl ?_); first | (refine opk 1 rfl ?_; first | (refine ost_C H rfl (concat8 _ _ _ _ _ _ (sat_full _) (hr.full H) hn hb) rfl ?_; clear H; rintro vk wk hfk Lk ⟨a1, c1, rfl, _, rfl⟩ H; simp only [List.cons_append, List.nil_append] at H) | (refine ost_O (A := .blk _ _) H rfl (by (exact ixq)) (fun HO => stop_fail _ _ _ _ _ _ _ _ HO rfl) rfl ?_; clear H; rintro vk wk hfk Lk ⟨rfl, rfl⟩ H; simp only [List.cons_append, List.nil_append, List.eraseIdx_cons_zero, List.eraseIdx_cons_succ] at H)) | refine pv ?_ | (refine opk 3 rfl ?_; first | (refine ost_cmp rfl rfl rfl rfl (fun hc => ?_) (fun hc => ?_) <;> (simp only [cmpP] at hc; try exact prI)) | (refine ost_ptEq rfl rfl rfl (fun hc => ?_) (fun hc => ?_) <;> try (simp at hc; done)) | (refine ost_ptNe rfl rfl rfl (fun hc => ?_) (fun hc => ?_) <;> try (simp at hc; done))) | (refine opk 4 rfl ?_; (refine ost_cmp rfl rfl rfl rfl (fun hc => ?_) (fun hc => ?_) <;> (simp only [cmpP] at hc; try exact prI))) | (refine opk 8 rfl ?_; (refine ost_store1 H rfl rfl vlq gv ixq (by first | decide | (simp; omega) | (simp; done) | omega) ?_; clear H; intro wk H; simp only [List.set_cons_zero, List.set_cons_succ, Nat.reduceAdd] at H))) | refine Wc.seq ?_ | refine then_n ?_ | refine WL.nil ?_ | refine Wc.region ?_ | refine Wc.block ?_ | refine then_r ?_ | refine then_e ?_ | refine inb_e rfl ?_ | refine inb_o rfl ?_ | refine inb_n ?_ | refine inb_r ?_ | refine Wc.skip ?_ | refine Wc.exit ?_ | refine Wc.ret ?_ | refine Wc.cond_true rfl ?_ | refine Wc.cond_false rfl ?_ | refine WL.skp rfl rfl ?_ | refine WL.sku rfl ?_)
        exact fn_ret1 (v := .int _ _) rfl rfl ⟨_, _, (H.pick2 0 2 rfl rfl (by decide)).join, rfl, _, rfl⟩
      · have e1 : layE true 0 xs pcs.flatten = (0, 0, xs ++ pcs.flatten) := by simp only [layE]; rw [if_neg (by decide), if_neg (by decide), if_neg hl]
        rw [e1]
        repeat' (first | ((first | refine WL.p rfl ?_ | refine WL.u ?_ | refine WL.g rfl rfl ?_ | refine WL.gu rfl ?_); first | (refine opk 1 rfl ?_; first | (refine ost_C H rfl (concat8 _ _ _ _ _ _ (sat_full _) (hr.full H) hn hb) rfl ?_; clear H; rintro vk wk hfk Lk ⟨a1, c1, rfl, _, rfl⟩ H; simp only [List.cons_append, List.nil_append] at H) | (refine ost_app8 (xs := xs) H rfl rfl rfl (by (exact ixq)) (H.own8rd (i := 0) rfl) (by (try simp only [List.length_nil, List.length_append, List.length_cons, List.length_singleton]); omega) ?_; clear H; intro aa ca wk H; simp only [List.set_cons_zero, List.set_cons_succ, List.nil_append] at H)) | refine pv ?_ | (refine opk 3 rfl ?_; first | (refine ost_cmp rfl rfl rfl rfl (fun hc => ?_) (fun hc => ?_) <;> (simp only [cmpP] at hc; try exact prI)) | (refine ost_ptEq rfl rfl rfl (fun hc => ?_) (fun hc => ?_) <;> try (simp at hc; done)) | (refine ost_ptNe rfl rfl rfl (fun hc => ?_) (fun hc => ?_) <;> try (simp at hc; done))) | (refine opk 4 rfl ?_; (refine ost_cmp rfl rfl rfl rfl (fun hc => ?_) (fun hc => ?_) <;> (simp only [cmpP] at hc; try exact prI))) | (refine opk 8 rfl ?_; (refine ost_store1 H rfl rfl vlq gv ixq (by first | decide | (simp; omega) | (simp; done) | omega) ?_; clear H; intro wk H; simp only [List.set_cons_zero, List.set_cons_succ, Nat.reduceAdd] at H))) | refine Wc.seq ?_ | refine then_n ?_ | refine WL.nil ?_ | refine Wc.region ?_ | refine Wc.block ?_ | refine then_r ?_ | refine then_e ?_ | refine inb_e rfl ?_ | refine inb_o rfl ?_ | refine inb_n ?_ | refine inb_r ?_ | refine Wc.skip ?_ | refine Wc.exit ?_ | refine Wc.ret ?_ | refine Wc.cond_true rfl ?_ | refine Wc.cond_false rfl ?_ | refine WL.skp rfl rfl ?_ | refine WL.sku rfl ?_)
        exact fn_ret1 (v := .int _ _) rfl rfl ⟨_, _, (H.pick2 1 2 rfl rfl (by decide)).join, rfl, _, rfl⟩
    · have e1 : layE true e xs pcs.flatten = (e, e, xs) := by simp only [layE]; rw [if_neg (by decide), if_pos he]
      rw [e1]
      repeat' (first | ((first | refine WL.p rfl ?_ | refine WL.u ?_ | refine WL.g rfl rfl ?_ | refine WL.gu rfl ?_); first | (refine opk 1 rfl ?_; (refine ost_C H rfl (concat8 _ _ _ _ _ _ (sat_full _) (hr.full H) hn hb) rfl ?_; clear H; rintro vk wk hfk Lk ⟨a1, c1, rfl, _, rfl⟩ H; simp only [List.cons_append, List.nil_append] at H)) | refine pv ?_ | (refine opk 3 rfl ?_; first | (refine ost_cmp rfl rfl rfl rfl (fun hc => ?_) (fun hc => ?_) <;> (simp only [cmpP] at hc; try exact prI)) | (refine ost_ptEq rfl rfl rfl (fun hc => ?_) (fun hc => ?_) <;> try (simp at hc; done)) | (refine ost_ptNe rfl rfl rfl (fun hc => ?_) (fun hc => ?_) <;> try (simp at hc; done))) | (refine opk 4 rfl ?_; (refine ost_cmp rfl rfl rfl rfl (fun hc => ?_) (fun hc => ?_) <;> (simp only [cmpP] at hc; try exact prI))) | (refine opk 8 rfl ?_; (refine ost_store1 H rfl rfl vlq gv ixq (by first | decide | (simp; omega) | (simp; done) | omega) ?_; clear H; intro wk H; simp only [List.set_cons_zero, List.set_cons_succ, Nat.reduceAdd] at H))) | refine Wc.seq ?_ | refine then_n ?_ | refine WL.nil ?_ | refine Wc.region ?_ | refine Wc.block ?_ | refine then_r ?_ | refine then_e ?_ | refine inb_e rfl ?_ | refine inb_o rfl ?_ | refine inb_n ?_ | refine inb_r ?_ | refine Wc.skip ?_ | refine Wc.exit ?_ | refine Wc.ret ?_ | refine Wc.cond_true rfl ?_ | refine Wc.cond_false rfl ?_ | refine WL.skp rfl rfl ?_ | refine WL.sku rfl ?_)
      exact fn_ret1 (v := .int _ _) rfl rfl ⟨_, _, (H.pick2 1 2 rfl rfl (by decide)).join, rfl, _, rfl⟩
theorem pack_lay_nil (w : World) (a : Option Addr) (n c : Nat) : SpecV Try.prog 98 #[.pointer none, .slice a n c] w (.int .i64 1) := by
  refine specV_of fun h0 hs H => ?_
  refine calls_of Try.func98 rfl Try.ntmps98 (by simp) ?_
  repeat' (first | ((first | refine WL.p rfl ?_ | refine WL.u ?_ | refine WL.g rfl rfl ?_ | refine WL.gu rfl ?_); first | refine pv ?_ | (refine opk 3 rfl ?_; first | (refine ost_cmp rfl rfl rfl rfl (fun hc => ?_) (fun hc => ?_) <;> (simp only [cmpP] at hc; try exact prI)) | (refine ost_ptEq rfl rfl rfl (fun hc => ?_) (fun hc => ?_) <;> try (simp at hc; done)) | (refine ost_ptNe rfl rfl rfl (fun hc => ?_) (fun hc => ?_) <;> try (simp at hc; done))) | (refine opk 4 rfl ?_; (refine ost_cmp rfl rfl rfl rfl (fun hc => ?_) (fun hc => ?_) <;> (simp only [cmpP] at hc; try exact prI))) | (refine opk 8 rfl ?_; (refine ost_store1 H rfl rfl vlq gv ixq (by first | decide | (simp; omega) | (simp; done) | omega) ?_; clear H; intro wk H; simp only [List.set_cons_zero, List.set_cons_succ, Nat.reduceAdd] at H))) | refine Wc.seq ?_ | refine then_n ?_ | refine WL.nil ?_ | refine Wc.region ?_ | refine Wc.block ?_ | refine then_r ?_ | refine then_e ?_ | refine inb_e rfl ?_ | refine inb_o rfl ?_ | refine inb_n ?_ | refine inb_r ?_ | refine Wc.skip ?_ | refine Wc.exit ?_ | refine Wc.ret ?_ | refine Wc.cond_true rfl ?_ | refine Wc.cond_false rfl ?_ | refine WL.skp rfl rfl ?_ | refine WL.sku rfl ?_)
  (first | refine fn_ret1 (v := .bool _) rfl rfl ⟨?_, H.fr⟩ | refine fn_ret1 (v := .int _ _) rfl rfl ⟨?_, H.fr⟩ | refine fn_ret1 (v := .string _) rfl rfl ⟨?_, H.fr⟩); rfl
theorem BL.two {w : World} {S : List Nat} {ws : World} {h0 h : FH} {L : List HA} (H : St ws S h0 h L w) {i j k b : Nat} {A : HA} {T T8 : TypeId} {v : Value} {xs : List UInt8} (hi : L[i]? = some A)
    (hj : L[j]? = some (.own (.slice (some ⟨b, 0, none⟩) 1 1) T 1 1 [v])) (hk : L[k]? = some (own8 v T8 xs)) (hij : i ≠ j) (hik : i ≠ k) : BL (less w A.fp) (some ⟨b, 0, none⟩) [v] [xs] := by
  obtain ⟨a, c, e, -, -, h, -⟩ := H.lessOwn hi hj hij
  injection e with e1 e2 e3
  subst e1
  exact ⟨h, rfl, fun n hn _ => by
    have : n = 0 := by simp at hn; omega
    subst this; exact H.lessBS hi hk hik⟩
theorem putL_len : ∀ (k n : Nat), (putL k n).length ≤ k + 1
  | 0, n => by simp [putL]
  | k + 1, n => by
    unfold putL; split
    · simp
    · have := putL_len k (n / 128); simp; omega
theorem putB_len (n : Nat) : (putB n).length ≤ 11 := putL_len 10 n
theorem pack_Num (b : Nat) (made : Bool) (e : Int) (v : Value) (xs : List UInt8) (g : FH) (w : World) (HO : St w (wr b made e v xs).fp g g [wr b made e v xs] w) (n : Nat) (hn : n < 18446744073709551616) (hx : xs.length ≤ 65536) :
    Spec Try.prog 74 #[pt b, .int .u64 n] w (wr b made e v xs).fp g (fun v' h' L' =>
      v' = .int .i64 (layE made e xs (putB n)).1 ∧ ∃ v2, L' = [wr b made (layE made e xs (putB n)).2.1 v2 (layE made e xs (putB n)).2.2]) := by
  have H := HO
  have hp := putB_len n
  unfold Spec
  refine calls_of Try.func74 rfl Try.ntmps74 (by simp) ?_
  repeat' (first | ((first | refine WL.p rfl ?_ | refine WL.u ?_); first | (refine opk 1 rfl ?_; first | (refine ost_C H rfl (vint_Put n hn _ _ (sat_full _)) rfl ?_; clear H; rintro vk wk hfk Lk ⟨a1, c1, rfl, _, rfl⟩ H; simp only [List.cons_append, List.nil_append] at H) | (refine ost_O (A := .both _ _) H rfl (by (exact ixq)) (fun HO => pack_lay _ _ _ _ _ _ _ HO _ _ _ [putB n] (BL.two H idx2 idx0 idx1 (by decide) (by decide)) (by simp) (by simp; omega) hx) rfl ?_; clear H; rintro vk wk hfk Lk ⟨rfl, v2, rfl⟩ H; simp only [List.cons_append, List.nil_append, List.eraseIdx_cons_zero, List.eraseIdx_cons_succ] at H)) | refine pv ?_ | (refine opk 9 rfl ?_; (refine ost_build1 H rfl rfl rfl evq lsq rfl ?_; clear H; intro bk wk H))) | refine Wc.seq ?_ | refine then_n ?_ | refine WL.nil ?_ | refine Wc.region ?_ | refine Wc.block ?_ | refine then_r ?_ | refine then_e ?_ | refine inb_e rfl ?_ | refine inb_o rfl ?_ | refine inb_n ?_ | refine inb_r ?_ | refine Wc.skip ?_ | refine Wc.exit ?_ | refine Wc.ret ?_ | refine Wc.cond_true rfl ?_ | refine Wc.cond_false rfl ?_)
  have ef : [putB n].flatten = putB n := by simp
  exact fn_ret1 (v := .int _ _) rfl rfl ⟨_, _, H.pick 0 rfl, by rw [ef], _, by rw [ef]⟩
theorem pack_All (b : Nat) (made : Bool) (e : Int) (xs : List UInt8) (h0 : FH) (w : World) (hs : Sat h0 w) (a : Option Addr) (c : Nat) (T : TypeId) (fr : Nat × Nat) (hb : h0 b = some (.cells [.bool made, .int .i64 e, .slice a xs.length c].toArray T fr)) (hr : BS h0 a c xs) (hx : xs.length ≤ 65536) :
    Spec Try.prog 28 #[pt b] w [] h0 (fun v' h' L' => h' = h0 ∧
      if made = true ∧ e = 0 then ∃ a' c', v' = .tuple #[.slice a' xs.length c', .int .i64 0] ∧ L' = [own8 (.slice a' xs.length c') 5 xs]
      else v' = .tuple #[.slice none 0 0, .int .i64 (if made then e else 1)] ∧ L' = []) := by
  have H := St.start hs
  unfold Spec
  refine calls_of Try.func28 rfl Try.ntmps28 (by simp) ?_
  cases made
  · repeat' (first | ((first | refine WL.p rfl ?_ | refine WL.u ?_ | refine WL.g rfl rfl ?_ | refine WL.gu rfl ?_); first | refine pv ?_ | (refine opk 3 rfl ?_; first | (refine ost_cmp rfl rfl rfl rfl (fun hc => ?_) (fun hc => ?_) <;> (simp only [cmpP] at hc; try exact prI)) | (refine ost_ptEq rfl rfl rfl (fun hc => ?_) (fun hc => ?_) <;> try (simp at hc; done)) | (refine ost_ptNe rfl rfl rfl (fun hc => ?_) (fun hc => ?_) <;> try (simp at hc; done))) | (refine opk 4 rfl ?_; (refine ost_cmp rfl rfl rfl rfl (fun hc => ?_) (fun hc => ?_) <;> (simp only [cmpP] at hc; try exact prI)))) | refine Wc.seq ?_ | refine then_n ?_ | refine WL.nil ?_ | refine Wc.region ?_ | refine Wc.block ?_ | refine then_r ?_ | refine then_e ?_ | refine inb_e rfl ?_ | refine inb_o rfl ?_ | refine inb_n ?_ | refine inb_r ?_ | refine Wc.skip ?_ | refine Wc.exit ?_ | refine Wc.ret ?_ | refine Wc.cond_true rfl ?_ | refine Wc.cond_false rfl ?_ | (refine Wc.drawn (id := 4) 6 (by kernel_rfl) ?_) | refine WL.skp rfl rfl ?_ | refine WL.sku rfl ?_ | (refine rgs_nil ?_; intro vs wk hE; replace H := H.ext hE; clear hE) | refine RGs.skp (fun _ => rfl) rfl ?_ | (refine RGs.bq (fun _ => rfl) rfl (by intro vs w hE hP; have H := H.ext hE; exact db) (fun hc => ?_) (fun hc => ?_) <;> ((try simp only [cmpP, decide_eq_true_eq, decide_eq_false_iff_not, dcd_iff, dcd_no] at hc); try exact prD)) | refine RGs.pq (fun _ => rfl) rfl (by intro vs w hE hP; have H := H.ext hE; exact dv) ?_)
    exact fn_ret2 (v1 := .slice _ _ _) (v2 := .int _ _) rfl rfl rfl ⟨_, _, H, rfl, by rw [if_neg (by simp)]; exact ⟨rfl, rfl⟩⟩
  · by_cases he : e = 0
    · subst he
      repeat' (first | ((first | refine WL.p rfl ?_ | refine WL.u ?_ | refine WL.g rfl rfl ?_ | refine WL.gu rfl ?_); first | (refine opk 1 rfl ?_; (refine ost_C H rfl (clone8 _ _ _ _ _ (sat_full _) (hr.full H) (by omega)) rfl ?_; clear H; rintro vk wk hfk Lk ⟨a1, c1, rfl, _, rfl⟩ H; simp only [List.cons_append, List.nil_append] at H)) | refine pv ?_ | (refine opk 3 rfl ?_; first | (refine ost_cmp rfl rfl rfl rfl (fun hc => ?_) (fun hc => ?_) <;> (simp only [cmpP] at hc; try exact prI)) | (refine ost_ptEq rfl rfl rfl (fun hc => ?_) (fun hc => ?_) <;> try (simp at hc; done)) | (refine ost_ptNe rfl rfl rfl (fun hc => ?_) (fun hc => ?_) <;> try (simp at hc; done))) | (refine opk 4 rfl ?_; (refine ost_cmp rfl rfl rfl rfl (fun hc => ?_) (fun hc => ?_) <;> (simp only [cmpP] at hc; try exact prI)))) | refine Wc.seq ?_ | refine then_n ?_ | refine WL.nil ?_ | refine Wc.region ?_ | refine Wc.block ?_ | refine then_r ?_ | refine then_e ?_ | refine inb_e rfl ?_ | refine inb_o rfl ?_ | refine inb_n ?_ | refine inb_r ?_ | refine Wc.skip ?_ | refine Wc.exit ?_ | refine Wc.ret ?_ | refine Wc.cond_true rfl ?_ | refine Wc.cond_false rfl ?_ | (refine Wc.drawn (id := 4) 6 (by kernel_rfl) ?_) | refine WL.skp rfl rfl ?_ | refine WL.sku rfl ?_ | (refine rgs_nil ?_; intro vs wk hE; replace H := H.ext hE; clear hE) | refine RGs.skp (fun _ => rfl) rfl ?_ | (refine RGs.bq (fun _ => rfl) rfl (by intro vs w hE hP; have H := H.ext hE; exact db) (fun hc => ?_) (fun hc => ?_) <;> ((try simp only [cmpP, decide_eq_true_eq, decide_eq_false_iff_not, dcd_iff, dcd_no] at hc); try exact prD)) | refine RGs.pq (fun _ => rfl) rfl (by intro vs w hE hP; have H := H.ext hE; exact dv) ?_)
      exact fn_ret2 (v1 := .slice _ _ _) (v2 := .int _ _) rfl rfl rfl ⟨_, _, H, rfl, by rw [if_pos (by simp)]; exact ⟨_, _, rfl, rfl⟩⟩
    · repeat' (first | ((first | refine WL.p rfl ?_ | refine WL.u ?_ | refine WL.g rfl rfl ?_ | refine WL.gu rfl ?_); first | refine pv ?_ | (refine opk 3 rfl ?_; first | (refine ost_cmp rfl rfl rfl rfl (fun hc => ?_) (fun hc => ?_) <;> (simp only [cmpP] at hc; try exact prI)) | (refine ost_ptEq rfl rfl rfl (fun hc => ?_) (fun hc => ?_) <;> try (simp at hc; done)) | (refine ost_ptNe rfl rfl rfl (fun hc => ?_) (fun hc => ?_) <;> try (simp at hc; done))) | (refine opk 4 rfl ?_; (refine ost_cmp rfl rfl rfl rfl (fun hc => ?_) (fun hc => ?_) <;> (simp only [cmpP] at hc; try exact prI)))) | refine Wc.seq ?_ | refine then_n ?_ | refine WL.nil ?_ | refine Wc.region ?_ | refine Wc.block ?_ | refine then_r ?_ | refine then_e ?_ | refine inb_e rfl ?_ | refine inb_o rfl ?_ | refine inb_n ?_ | refine inb_r ?_ | refine Wc.skip ?_ | refine Wc.exit ?_ | refine Wc.ret ?_ | refine Wc.cond_true rfl ?_ | refine Wc.cond_false rfl ?_ | (refine Wc.drawn (id := 4) 6 (by kernel_rfl) ?_) | refine WL.skp rfl rfl ?_ | refine WL.sku rfl ?_ | (refine rgs_nil ?_; intro vs wk hE; replace H := H.ext hE; clear hE) | refine RGs.skp (fun _ => rfl) rfl ?_ | (refine RGs.bq (fun _ => rfl) rfl (by intro vs w hE hP; have H := H.ext hE; exact db) (fun hc => ?_) (fun hc => ?_) <;> ((try simp only [cmpP, decide_eq_true_eq, decide_eq_false_iff_not, dcd_iff, dcd_no] at hc); try exact prD)) | refine RGs.pq (fun _ => rfl) rfl (by intro vs w hE hP; have H := H.ext hE; exact dv) ?_)
      exact fn_ret2 (v1 := .slice _ _ _) (v2 := .int _ _) rfl rfl rfl ⟨_, _, H, rfl, by rw [if_neg (by simp [he])]; exact ⟨rfl, rfl⟩⟩
theorem pack_All_ok (b : Nat) (xs : List UInt8) (h0 : FH) (w : World) (hs : Sat h0 w) (a : Option Addr) (c : Nat) (T : TypeId) (fr : Nat × Nat) (hb : h0 b = some (.cells [.bool true, .int .i64 0, .slice a xs.length c].toArray T fr)) (hr : BS h0 a c xs) (hx : xs.length ≤ 65536) :
    Spec Try.prog 28 #[pt b] w [] h0 (fun v' h' L' => ∃ a' c', v' = .tuple #[.slice a' xs.length c', .int .i64 0] ∧ L' = [own8 (.slice a' xs.length c') 5 xs]) :=
  (pack_All b true 0 xs h0 w hs a c T fr hb hr hx).mono fun v h' L' ⟨_, h⟩ => by rwa [if_pos (by simp)] at h
theorem layE_ok {xs p : List UInt8} (h : xs.length + p.length ≤ 65536) : layE true 0 xs p = (0, 0, xs ++ p) := by
  simp only [layE]; rw [if_neg (by decide), if_neg (by decide), if_neg (by omega)]
end Go.Tg
