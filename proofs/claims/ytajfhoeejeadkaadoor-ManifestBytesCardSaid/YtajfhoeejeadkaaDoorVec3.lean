/- Contracts of Go functions that the laws reach: what each call answers and leaves in memory, for all arguments within the bounds that each theorem names. -/
import Derived.Test.YtajfhoeejeadkaaDoorInst
import Derived.Test.YtajfhoeejeadkaaDoorAuto
import Derived.Test.YtajfhoeejeadkaaDoorV3
import Derived.Test.YtajfhoeejeadkaaDoorMov
import Derived.Test.YtajfhoeejeadkaaDoorO1
set_option linter.unusedVariables false
set_option linter.unusedSimpArgs false
set_option maxRecDepth 100000
set_option maxHeartbeats 4000000
namespace Go.Tg
open Go Go.Proofs
def fieldB (xs : List UInt8) : List UInt8 := putB xs.length ++ xs
theorem BL.of2 {w : World} {S : List Nat} {ws : World} {h0 h : FH} {L : List HA} (H : St ws S h0 h L w) {i j k b : Nat} {A : HA} {T T8 : TypeId} {v v1 : Value} {xs ys : List UInt8} (hi : L[i]? = some A)
    (hj : L[j]? = some (.own (.slice (some ⟨b, 0, none⟩) 2 2) T 1 2 [v, v1])) (hk : L[k]? = some (own8 v T8 xs)) (hij : i ≠ j) (hik : i ≠ k) (hv : BSv h v1 ys) : BL (less w A.fp) (some ⟨b, 0, none⟩) [v, v1] [xs, ys] := by
  obtain ⟨a, c, e, -, -, hr, -⟩ := H.lessOwn hi hj hij
  injection e with e1 e2 e3
  subst e1
  refine ⟨hr, rfl, fun n hn _ => ?_⟩
  match n, hn with
  | 0, _ => exact H.lessBS hi hk hik
  | 1, _ => exact hv.mono (H.less hi)
theorem pack_Bytes (b : Nat) (made : Bool) (e : Int) (v : Value) (xs : List UInt8) (g : FH) (w : World) (HO : St w (wr b made e v xs).fp g g [wr b made e v xs] w) (a : Option Addr) (c : Nat) (ys : List UInt8) (hr : BS g a c ys) (hy : ys.length ≤ 900000) (hx : xs.length ≤ 65536) :
    Spec Tryd.prog 78 #[pt b, .slice a ys.length c] w (wr b made e v xs).fp g (fun v' h' L' =>
      v' = .int .i64 (layE made e xs (fieldB ys)).1 ∧ ∃ v2, L' = [wr b made (layE made e xs (fieldB ys)).2.1 v2 (layE made e xs (fieldB ys)).2.2]) := by
  have H := HO
  have hp := putB_len ys.length
  unfold Spec
  refine calls_of Tryd.func78 rfl Tryd.ntmps78 (by simp) ?_
  repeat' (first | ((first | refine WL.p rfl ?_ | refine WL.u ?_); first | (refine opk 1 rfl ?_; first | (refine ost_C H rfl (vint_Put ys.length (by omega) _ _ (sat_full _)) rfl ?_; clear H; rintro vk wk hfk Lk ⟨a1, c1, rfl, _, rfl⟩ H; simp only [List.cons_append, List.nil_append] at H) | (refine ost_O (A := .both _ _) H rfl (by (exact ixQ)) (fun HO => pack_lay _ _ _ _ _ _ _ HO _ _ _ [putB ys.length, ys] (BL.of2 H idx2 idx0 idx1 (by decide) (by decide) ⟨_, _, rfl, hr⟩) (by simp) (by simp; omega) hx) rfl ?_; clear H; rintro vk wk hfk Lk ⟨rfl, v2, rfl⟩ H; simp only [List.cons_append, List.nil_append, List.eraseIdx_cons_zero, List.eraseIdx_cons_succ] at H)) | refine pvQ ?_ | (refine opk 9 rfl ?_; (refine ost_build1 H rfl rfl rfl evQ lsQ rfl ?_; clear H; intro bk wk H))) | refine Wc.seq ?_ | refine then_n ?_ | refine WL.nil ?_ | refine Wc.region ?_ | refine Wc.block ?_ | refine then_r ?_ | refine then_e ?_ | refine inb_e rfl ?_ | refine inb_o rfl ?_ | refine inb_n ?_ | refine inb_r ?_ | refine Wc.skip ?_ | refine Wc.exit ?_ | refine Wc.ret ?_ | refine Wc.cond_true rfl ?_ | refine Wc.cond_false rfl ?_)
  have ef : [putB ys.length, ys].flatten = fieldB ys := by simp [fieldB]
  exact fn_ret1 (v := .int _ _) rfl rfl ⟨_, _, H.pick 0 rfl, by rw [ef], _, by rw [ef]⟩
abbrev rdr (b : Nat) (made : Bool) (e : Int) (a : Option Addr) (n c : Nat) : HA := .blk b (.cells [.bool made, .int .i64 e, .slice a n c].toArray 194 (0, 0))
theorem pack_Read (h0 : FH) (a : Option Addr) (c : Nat) (xs : List UInt8) (w : World) (hs : Sat h0 w) (hr : BS h0 a c xs) (hb : xs.length ≤ 1000000000) :
    Spec Tryd.prog 70 #[.slice a xs.length c] w [] h0 (fun v h' L' => ∃ b a' c', v = pt b ∧ BS h' a' c' xs ∧ L' = [rdr b true 0 a' xs.length c']) := by
  have H := St.start hs
  unfold Spec
  refine calls_of Tryd.func70 rfl Tryd.ntmps70 (by simp) ?_
  repeat' (first | ((first | refine WL.p rfl ?_ | refine WL.u ?_); first | (refine opk 1 rfl ?_; (refine ost_Sk H rfl (clone8 _ _ _ _ _ H.sat hr hb) rfl ?_; clear H; rintro vk wk hfk Lk ⟨a1, c1, rfl, rfl, rfl⟩ hle H; simp only [List.cons_append, List.nil_append] at H)) | refine pvQ ?_ | (refine opk 9 rfl ?_; (refine ost_boxq H rfl ?_; clear H; intro bk wk H))) | refine Wc.seq ?_ | refine then_n ?_ | refine WL.nil ?_ | refine Wc.region ?_ | refine Wc.block ?_ | refine then_r ?_ | refine then_e ?_ | refine inb_e rfl ?_ | refine inb_o rfl ?_ | refine inb_n ?_ | refine inb_r ?_ | refine Wc.skip ?_ | refine Wc.exit ?_ | refine Wc.ret ?_ | refine Wc.cond_true rfl ?_ | refine Wc.cond_false rfl ?_)
  obtain ⟨a2, c2, h2, e2, hle2, hr2, H⟩ := (H.front 1 rfl).freeze8
  cases e2
  exact fn_ret1 (v := .pointer _) rfl rfl ⟨_, _, H, _, _, _, rfl, hr2, rfl⟩
def numE (e : Int) (xs : List UInt8) : Nat × Int × Int × List UInt8 :=
  if e ≠ 0 then (0, e, e, xs) else if (getB xs).2.2 ≠ 0 then (0, (((getB xs).2.2 : Nat) : Int), (((getB xs).2.2 : Nat) : Int), xs) else ((getB xs).1, 0, 0, xs.drop (getB xs).2.1)
theorem numE_lt (e : Int) (xs : List UInt8) : (numE e xs).1 < 18446744073709551616 := by
  have := getB_lt xs
  unfold numE; split
  · simp
  · split <;> simp; omega
theorem rd_Num (b : Nat) (e : Int) (a : Option Addr) (c : Nat) (xs : List UInt8) (g : FH) (w : World) (HO : St w [b] g g [rdr b true e a xs.length c] w) (hr : BS g a c xs) :
    Spec Tryd.prog 94 #[pt b] w [b] g (fun v' h' L' => v' = .tuple #[.int .u64 (numE e xs).1, .int .i64 (numE e xs).2.1] ∧ h' = g ∧ ∃ a' c', BS g a' c' (numE e xs).2.2.2 ∧ L' = [rdr b true (numE e xs).2.2.1 a' (numE e xs).2.2.2.length c']) := by
  have H := HO
  have hl := getB_le xs
  have hcap := hr.le
  unfold Spec
  refine calls_of Tryd.func94 rfl Tryd.ntmps94 (by simp) ?_
  by_cases he : e = 0
  · subst he
    by_cases hg : (getB xs).2.2 = 0
    · have en : numE 0 xs = ((getB xs).1, 0, 0, xs.drop (getB xs).2.1) := by unfold numE; rw [if_neg (by simp), if_neg (by simpa using hg)]
      rw [en]
      have hg' : (((getB xs).2.2 : Nat) : Int) = 0 := by omega
      repeat' (first | ((first | refine WL.p rfl ?_ | refine WL.u ?_ | refine WL.g rfl rfl ?_ | refine WL.gu rfl ?_); first | (refine opk 1 rfl ?_; (refine ost_V H rfl (vint_Get _ _ _ _ _ H.sat hr) rfl ?_; clear H; intro wk H)) | refine pvQ ?_ | (refine opk 3 rfl ?_; first | (refine ost_cmp rfl rfl rfl rfl (fun hc => ?_) (fun hc => ?_) <;> (simp only [cmpP] at hc; try exact prIQ)) | (refine ost_ptEq rfl rfl rfl (fun hc => ?_) (fun hc => ?_) <;> try (simp at hc; done)) | (refine ost_ptNe rfl rfl rfl (fun hc => ?_) (fun hc => ?_) <;> try (simp at hc; done))) | (refine opk 4 rfl ?_; (refine ost_cmp rfl rfl rfl rfl (fun hc => ?_) (fun hc => ?_) <;> (simp only [cmpP] at hc; try exact prIQ))) | (refine opk 8 rfl ?_; (refine ost_store1 H rfl rfl vlQ gvQ ixQ (by first | decide | (simp; omega) | (simp; done) | omega) ?_; clear H; intro wk H; simp only [List.set_cons_zero, List.set_cons_succ, Nat.reduceAdd] at H))) | refine Wc.seq ?_ | refine then_n ?_ | refine WL.nil ?_ | refine Wc.region ?_ | refine Wc.block ?_ | refine then_r ?_ | refine then_e ?_ | refine inb_e rfl ?_ | refine inb_o rfl ?_ | refine inb_n ?_ | refine inb_r ?_ | refine Wc.skip ?_ | refine Wc.exit ?_ | refine Wc.ret ?_ | refine Wc.cond_true rfl ?_ | refine Wc.cond_false rfl ?_ | (refine Wc.drawn (id := 4) 6 (by kernel_rfl) ?_) | refine WL.skp rfl rfl ?_ | refine WL.sku rfl ?_ | (refine rgs_nil ?_; intro vs wk hE; replace H := H.ext hE; clear hE) | refine RGs.skp (fun _ => rfl) rfl ?_ | (refine RGs.bq (fun _ => rfl) rfl (by intro vs w hE hP; have H := H.ext hE; first | exact dbQ | fail) (fun hc => ?_) (fun hc => ?_) <;> ((try simp only [cmpP, decide_eq_true_eq, decide_eq_false_iff_not, dcd_iff, dcd_no] at hc); try exact prDQ)) | refine RGs.pq (fun _ => rfl) rfl (by intro vs w hE hP; have H := H.ext hE; first | exact dvQ | fail) ?_)
      exact fn_ret2 (v1 := .int _ _) (v2 := .int _ _) rfl rfl rfl ⟨_, _, H, rfl, rfl, _, _, hr.drop hl, by rw [List.length_drop]; rfl⟩
    · have en : numE 0 xs = (0, (((getB xs).2.2 : Nat) : Int), (((getB xs).2.2 : Nat) : Int), xs) := by unfold numE; rw [if_neg (by simp), if_pos (by simpa using hg)]
      rw [en]
      have hg' : ¬ (((getB xs).2.2 : Nat) : Int) = 0 := by omega
      repeat' (first | ((first | refine WL.p rfl ?_ | refine WL.u ?_ | refine WL.g rfl rfl ?_ | refine WL.gu rfl ?_); first | (refine opk 1 rfl ?_; first | (refine ost_V H rfl (vint_Get _ _ _ _ _ H.sat hr) rfl ?_; clear H; intro wk H) | (refine ost_O (A := .blk _ _) H rfl (by (exact ixQ)) (fun HO => stop_fail _ _ _ _ _ _ _ _ HO rfl) rfl ?_; clear H; rintro vk wk hfk Lk ⟨rfl, rfl⟩ H; simp only [List.cons_append, List.nil_append, List.eraseIdx_cons_zero, List.eraseIdx_cons_succ] at H)) | refine pvQ ?_ | (refine opk 3 rfl ?_; first | (refine ost_cmp rfl rfl rfl rfl (fun hc => ?_) (fun hc => ?_) <;> (simp only [cmpP] at hc; try exact prIQ)) | (refine ost_ptEq rfl rfl rfl (fun hc => ?_) (fun hc => ?_) <;> try (simp at hc; done)) | (refine ost_ptNe rfl rfl rfl (fun hc => ?_) (fun hc => ?_) <;> try (simp at hc; done))) | (refine opk 4 rfl ?_; (refine ost_cmp rfl rfl rfl rfl (fun hc => ?_) (fun hc => ?_) <;> (simp only [cmpP] at hc; try exact prIQ))) | (refine opk 8 rfl ?_; (refine ost_store1 H rfl rfl vlQ gvQ ixQ (by first | decide | (simp; omega) | (simp; done) | omega) ?_; clear H; intro wk H; simp only [List.set_cons_zero, List.set_cons_succ, Nat.reduceAdd] at H))) | refine Wc.seq ?_ | refine then_n ?_ | refine WL.nil ?_ | refine Wc.region ?_ | refine Wc.block ?_ | refine then_r ?_ | refine then_e ?_ | refine inb_e rfl ?_ | refine inb_o rfl ?_ | refine inb_n ?_ | refine inb_r ?_ | refine Wc.skip ?_ | refine Wc.exit ?_ | refine Wc.ret ?_ | refine Wc.cond_true rfl ?_ | refine Wc.cond_false rfl ?_ | (refine Wc.drawn (id := 4) 6 (by kernel_rfl) ?_) | refine WL.skp rfl rfl ?_ | refine WL.sku rfl ?_ | (refine rgs_nil ?_; intro vs wk hE; replace H := H.ext hE; clear hE) | refine RGs.skp (fun _ => rfl) rfl ?_ | (refine RGs.bq (fun _ => rfl) rfl (by intro vs w hE hP; have H := H.ext hE; first | exact dbQ | fail) (fun hc => ?_) (fun hc => ?_) <;> ((try simp only [cmpP, decide_eq_true_eq, decide_eq_false_iff_not, dcd_iff, dcd_no] at hc); try exact prDQ)) | refine RGs.pq (fun _ => rfl) rfl (by intro vs w hE hP; have H := H.ext hE; first | exact dvQ | fail) ?_)
      exact fn_ret2 (v1 := .int _ _) (v2 := .int _ _) rfl rfl rfl ⟨_, _, H, rfl, rfl, _, _, hr, rfl⟩
  · have en : numE e xs = (0, e, e, xs) := by unfold numE; rw [if_pos he]
    rw [en]
    repeat' (first | ((first | refine WL.p rfl ?_ | refine WL.u ?_ | refine WL.g rfl rfl ?_ | refine WL.gu rfl ?_); first | refine pvQ ?_ | (refine opk 3 rfl ?_; first | (refine ost_cmp rfl rfl rfl rfl (fun hc => ?_) (fun hc => ?_) <;> (simp only [cmpP] at hc; try exact prIQ)) | (refine ost_ptEq rfl rfl rfl (fun hc => ?_) (fun hc => ?_) <;> try (simp at hc; done)) | (refine ost_ptNe rfl rfl rfl (fun hc => ?_) (fun hc => ?_) <;> try (simp at hc; done))) | (refine opk 4 rfl ?_; (refine ost_cmp rfl rfl rfl rfl (fun hc => ?_) (fun hc => ?_) <;> (simp only [cmpP] at hc; try exact prIQ))) | (refine opk 8 rfl ?_; (refine ost_store1 H rfl rfl vlQ gvQ ixQ (by first | decide | (simp; omega) | (simp; done) | omega) ?_; clear H; intro wk H; simp only [List.set_cons_zero, List.set_cons_succ, Nat.reduceAdd] at H))) | refine Wc.seq ?_ | refine then_n ?_ | refine WL.nil ?_ | refine Wc.region ?_ | refine Wc.block ?_ | refine then_r ?_ | refine then_e ?_ | refine inb_e rfl ?_ | refine inb_o rfl ?_ | refine inb_n ?_ | refine inb_r ?_ | refine Wc.skip ?_ | refine Wc.exit ?_ | refine Wc.ret ?_ | refine Wc.cond_true rfl ?_ | refine Wc.cond_false rfl ?_ | (refine Wc.drawn (id := 4) 6 (by kernel_rfl) ?_) | refine WL.skp rfl rfl ?_ | refine WL.sku rfl ?_ | (refine rgs_nil ?_; intro vs wk hE; replace H := H.ext hE; clear hE) | refine RGs.skp (fun _ => rfl) rfl ?_ | (refine RGs.bq (fun _ => rfl) rfl (by intro vs w hE hP; have H := H.ext hE; first | exact dbQ | fail) (fun hc => ?_) (fun hc => ?_) <;> ((try simp only [cmpP, decide_eq_true_eq, decide_eq_false_iff_not, dcd_iff, dcd_no] at hc); try exact prDQ)) | refine RGs.pq (fun _ => rfl) rfl (by intro vs w hE hP; have H := H.ext hE; first | exact dvQ | fail) ?_)
    exact fn_ret2 (v1 := .int _ _) (v2 := .int _ _) rfl rfl rfl ⟨_, _, H, rfl, rfl, _, _, hr, rfl⟩
def bytesE (e : Int) (xs : List UInt8) : List UInt8 × Int × Int × List UInt8 :=
  if (numE e xs).2.1 ≠ 0 then ([], (numE e xs).2.1, (numE e xs).2.2.1, (numE e xs).2.2.2)
  else if (numE e xs).2.2.2.length < (numE e xs).1 then ([], 4, 4, (numE e xs).2.2.2)
  else ((numE e xs).2.2.2.take (numE e xs).1, 0, 0, (numE e xs).2.2.2.drop (numE e xs).1)
theorem numE_ok {e : Int} {xs : List UInt8} (h : (numE e xs).2.1 = 0) : (numE e xs).2.2.1 = 0 := by
  unfold numE at h ⊢; split
  · rename_i he; rw [if_pos he] at h; exact h
  · rename_i he; rw [if_neg he] at h
    split
    · rename_i hg; rw [if_pos hg] at h; exact h
    · rfl
theorem numE_len (e : Int) (xs : List UInt8) : (numE e xs).2.2.2.length ≤ xs.length := by
  unfold numE; split
  · exact Nat.le_refl _
  · split
    · exact Nat.le_refl _
    · simp
theorem rd_Bytes (b : Nat) (e : Int) (a : Option Addr) (c : Nat) (xs : List UInt8) (g : FH) (w : World) (HO : St w [b] g g [rdr b true e a xs.length c] w) (hr : BS g a c xs) (hx : xs.length ≤ 1000000000) :
    Spec Tryd.prog 95 #[pt b] w [b] g (fun v' h' L' => ∃ a2 c2 a' c', v' = .tuple #[.slice a2 (bytesE e xs).1.length c2, .int .i64 (bytesE e xs).2.1] ∧ h' = g ∧ BS g a' c' (bytesE e xs).2.2.2 ∧
      L' = [own8 (.slice a2 (bytesE e xs).1.length c2) 5 (bytesE e xs).1, rdr b true (bytesE e xs).2.2.1 a' (bytesE e xs).2.2.2.length c']) := by
  have H := HO
  have hlt := numE_lt e xs
  have hll := numE_len e xs
  unfold Spec
  refine calls_of Tryd.func95 rfl Tryd.ntmps95 (by simp) ?_
  by_cases hn : (numE e xs).2.1 = 0
  · have hz := numE_ok hn
    by_cases hk : (numE e xs).2.2.2.length < (numE e xs).1
    · have eb : bytesE e xs = ([], 4, 4, (numE e xs).2.2.2) := by unfold bytesE; rw [if_neg (by simpa using hn), if_pos hk]
      rw [eb]
      repeat' (first | ((first | refine WL.p rfl ?_ | refine WL.u ?_); first | (refine opk 1 rfl ?_; first | (refine ost_H (A := .blk _ _) H rfl (by (exact ixQ)) (fun HO => rd_Num _ _ _ _ _ _ _ HO hr) rfl ?_; clear H; rintro vk wk hfk Lk ⟨rfl, rfl, a1, c1, hr1, rfl⟩ hle H; simp only [List.cons_append, List.nil_append, List.eraseIdx_cons_zero, List.eraseIdx_cons_succ] at H) | (refine ost_O (A := .blk _ _) H rfl (by (exact ixQ)) (fun HO => stop_fail _ _ _ _ _ _ _ _ HO hz) rfl ?_; clear H; rintro vk wk hfk Lk ⟨rfl, rfl⟩ H; simp only [List.cons_append, List.nil_append, List.eraseIdx_cons_zero, List.eraseIdx_cons_succ] at H)) | refine pvQ ?_ | (refine opk 3 rfl ?_; (refine ost_cmp rfl rfl rfl rfl (fun hc => ?_) (fun hc => ?_) <;> (simp only [cmpP] at hc; try exact prIQ))) | (refine opk 4 rfl ?_; (refine ost_cmp rfl rfl rfl rfl (fun hc => ?_) (fun hc => ?_) <;> (simp only [cmpP] at hc; try exact prIQ))) | (refine opk 8 rfl ?_; (refine ost_store1 H rfl rfl vlQ gvQ ixQ (by first | decide | (simp; omega) | (simp; done) | omega) ?_; clear H; intro wk H; simp only [List.set_cons_zero, List.set_cons_succ, Nat.reduceAdd] at H))) | refine Wc.seq ?_ | refine then_n ?_ | refine WL.nil ?_ | refine Wc.region ?_ | refine Wc.block ?_ | refine then_r ?_ | refine then_e ?_ | refine inb_e rfl ?_ | refine inb_o rfl ?_ | refine inb_n ?_ | refine inb_r ?_ | refine Wc.skip ?_ | refine Wc.exit ?_ | refine Wc.ret ?_ | refine Wc.cond_true rfl ?_ | refine Wc.cond_false rfl ?_)
      exact fn_ret2 (v1 := .slice _ _ _) (v2 := .int _ _) rfl rfl rfl ⟨_, _, H.nil8 5, _, _, _, _, rfl, rfl, hr1, rfl⟩
    · have eb : bytesE e xs = ((numE e xs).2.2.2.take (numE e xs).1, 0, 0, (numE e xs).2.2.2.drop (numE e xs).1) := by unfold bytesE; rw [if_neg (by simpa using hn), if_neg hk]
      rw [eb]
      have ht : ((numE e xs).2.2.2.take (numE e xs).1).length = (numE e xs).1 := by simp; omega
      have hcl : ∀ (h0 : FH) (a : Option Addr) (c : Nat) (w : World) (hs : Sat h0 w) (hr : BS h0 a c (numE e xs).2.2.2), Spec Tryd.prog 116 #[.slice a (numE e xs).1 c] w [] h0 (fun v h' L' => ∃ a' c', v = .slice a' (numE e xs).1 c' ∧ h' = h0 ∧ L' = [own8 v 5 ((numE e xs).2.2.2.take (numE e xs).1)]) := fun h0 a c w hs hr => by
        have := clone8 h0 a c _ w hs (hr.take (numE e xs).1) (by rw [ht]; omega)
        rw [ht] at this; exact this
      repeat' (first | ((first | refine WL.p rfl ?_ | refine WL.u ?_); first | (refine opk 1 rfl ?_; first | (refine ost_H (A := .blk _ _) H rfl (by (exact ixQ)) (fun HO => rd_Num _ _ _ _ _ _ _ HO hr) rfl ?_; clear H; rintro vk wk hfk Lk ⟨rfl, rfl, a1, c1, hr1, rfl⟩ hle H; simp only [List.cons_append, List.nil_append, List.eraseIdx_cons_zero, List.eraseIdx_cons_succ] at H) | (refine ost_Sk H rfl (hcl _ _ _ _ H.sat hr1) rfl ?_; clear H; rintro vk wk hfk Lk ⟨a2, c2, rfl, rfl, rfl⟩ hle H; simp only [List.cons_append, List.nil_append] at H)) | refine pvQ ?_ | (refine opk 3 rfl ?_; (refine ost_cmp rfl rfl rfl rfl (fun hc => ?_) (fun hc => ?_) <;> (simp only [cmpP] at hc; try exact prIQ))) | (refine opk 4 rfl ?_; (refine ost_cmp rfl rfl rfl rfl (fun hc => ?_) (fun hc => ?_) <;> (simp only [cmpP] at hc; try exact prIQ))) | (refine opk 8 rfl ?_; (refine ost_store1 H rfl rfl vlQ gvQ ixQ (by first | decide | (simp; omega) | (simp; done) | omega) ?_; clear H; intro wk H; simp only [List.set_cons_zero, List.set_cons_succ, Nat.reduceAdd] at H))) | refine Wc.seq ?_ | refine then_n ?_ | refine WL.nil ?_ | refine Wc.region ?_ | refine Wc.block ?_ | refine then_r ?_ | refine then_e ?_ | refine inb_e rfl ?_ | refine inb_o rfl ?_ | refine inb_n ?_ | refine inb_r ?_ | refine Wc.skip ?_ | refine Wc.exit ?_ | refine Wc.ret ?_ | refine Wc.cond_true rfl ?_ | refine Wc.cond_false rfl ?_)
      rw [hz] at H
      exact fn_ret2 (v1 := .slice _ _ _) (v2 := .int _ _) rfl rfl rfl ⟨_, _, H, _, _, _, _, by rw [ht], rfl, hr1.drop (n := (numE e xs).1) (by omega), by rw [List.length_drop, ht]; rfl⟩
  · have eb : bytesE e xs = ([], (numE e xs).2.1, (numE e xs).2.2.1, (numE e xs).2.2.2) := by unfold bytesE; rw [if_pos hn]
    rw [eb]
    repeat' (first | ((first | refine WL.p rfl ?_ | refine WL.u ?_); first | (refine opk 1 rfl ?_; (refine ost_H (A := .blk _ _) H rfl (by (exact ixQ)) (fun HO => rd_Num _ _ _ _ _ _ _ HO hr) rfl ?_; clear H; rintro vk wk hfk Lk ⟨rfl, rfl, a1, c1, hr1, rfl⟩ hle H; simp only [List.cons_append, List.nil_append, List.eraseIdx_cons_zero, List.eraseIdx_cons_succ] at H)) | refine pvQ ?_ | (refine opk 3 rfl ?_; (refine ost_cmp rfl rfl rfl rfl (fun hc => ?_) (fun hc => ?_) <;> (simp only [cmpP] at hc; try exact prIQ))) | (refine opk 4 rfl ?_; (refine ost_cmp rfl rfl rfl rfl (fun hc => ?_) (fun hc => ?_) <;> (simp only [cmpP] at hc; try exact prIQ))) | (refine opk 8 rfl ?_; (refine ost_store1 H rfl rfl vlQ gvQ ixQ (by first | decide | (simp; omega) | (simp; done) | omega) ?_; clear H; intro wk H; simp only [List.set_cons_zero, List.set_cons_succ, Nat.reduceAdd] at H))) | refine Wc.seq ?_ | refine then_n ?_ | refine WL.nil ?_ | refine Wc.region ?_ | refine Wc.block ?_ | refine then_r ?_ | refine then_e ?_ | refine inb_e rfl ?_ | refine inb_o rfl ?_ | refine inb_n ?_ | refine inb_r ?_ | refine Wc.skip ?_ | refine Wc.exit ?_ | refine Wc.ret ?_ | refine Wc.cond_true rfl ?_ | refine Wc.cond_false rfl ?_)
    exact fn_ret2 (v1 := .slice _ _ _) (v2 := .int _ _) rfl rfl rfl ⟨_, _, H.nil8 5, _, _, _, _, rfl, rfl, hr1, rfl⟩
theorem rd_Done (b : Nat) (e : Int) (a : Option Addr) (c n : Nat) (w : World) {T : TypeId} {fr : Nat × Nat} (hb : w.heap[b]? = some (.cells [.bool true, .int .i64 e, .slice a n c].toArray T fr)) :
    SpecV Tryd.prog 72 #[pt b] w (.bool (decide (e = 0) && decide (n = 0))) := by
  have H := St.start (sat_full w)
  have hb' : full w b = some (.cells [.bool true, .int .i64 e, .slice a n c].toArray T fr) := hb
  unfold SpecV
  refine calls_of Tryd.func72 rfl Tryd.ntmps72 (by simp) ?_
  repeat' (first | ((first | refine WL.p rfl ?_ | refine WL.u ?_ | refine WL.g rfl rfl ?_ | refine WL.gu rfl ?_); first | refine pvQ ?_ | (refine opk 3 rfl ?_; first | (refine ost_cmp rfl rfl rfl rfl (fun hc => ?_) (fun hc => ?_) <;> (simp only [cmpP] at hc; try exact prIQ)) | (refine ost_ptEq rfl rfl rfl (fun hc => ?_) (fun hc => ?_) <;> try (simp at hc; done)) | (refine ost_ptNe rfl rfl rfl (fun hc => ?_) (fun hc => ?_) <;> try (simp at hc; done))) | (refine opk 4 rfl ?_; (refine ost_cmp rfl rfl rfl rfl (fun hc => ?_) (fun hc => ?_) <;> (simp only [cmpP] at hc; try exact prIQ)))) | refine Wc.seq ?_ | refine then_n ?_ | refine WL.nil ?_ | refine Wc.region ?_ | refine Wc.block ?_ | refine then_r ?_ | refine then_e ?_ | refine inb_e rfl ?_ | refine inb_o rfl ?_ | refine inb_n ?_ | refine inb_r ?_ | refine Wc.skip ?_ | refine Wc.exit ?_ | refine Wc.ret ?_ | refine Wc.cond_true rfl ?_ | refine Wc.cond_false rfl ?_ | refine WL.skp rfl rfl ?_ | refine WL.sku rfl ?_)
  all_goals ((first | refine fn_ret1 (v := .bool _) rfl rfl ⟨?_, H.fr⟩ | refine fn_ret1 (v := .int _ _) rfl rfl ⟨?_, H.fr⟩ | refine fn_ret1 (v := .string _) rfl rfl ⟨?_, H.fr⟩); congr 1; simp; omega)
end Go.Tg

set_option linter.unusedVariables false
set_option linter.unusedSimpArgs false
set_option maxRecDepth 100000
set_option maxHeartbeats 4000000
namespace Go.Tg
open Go Go.Proofs
theorem r3_Join (h0 : FH) (w : World) (hs : Sat h0 w) (a1 : Option Addr) (c1 : Nat) (xs : List UInt8) (a2 : Option Addr) (c2 : Nat) (ys : List UInt8) (hx : BS h0 a1 c1 xs) (hy : BS h0 a2 c2 ys) (hl : xs.length + ys.length ≤ 1000000000) :
    Spec Tryd.prog 123 #[.slice a1 xs.length c1, .slice a2 ys.length c2] w [] h0 (fun v h' L' => ∃ a' c', v = .slice a' (xs ++ ys).length c' ∧ h' = h0 ∧ L' = [own8 v 5 (xs ++ ys)]) := by
  have H := St.start hs
  unfold Spec
  refine calls_of Tryd.func123 rfl Tryd.ntmps123 (by simp) ?_
  repeat' (first | ((first | refine WL.p rfl ?_ | refine WL.u ?_); first | (refine opk 1 rfl ?_; first | (refine ost_app8 (xs := []) H rfl rfl rfl (by (exact ixQ)) ((hx.full H)) (by (try simp only [List.length_nil, List.length_append, List.length_cons, List.length_singleton]); omega) ?_; clear H; intro aa ca wk H; simp only [List.set_cons_zero, List.set_cons_succ, List.nil_append] at H) | (refine ost_app8 (xs := xs) H rfl rfl rfl (by (exact ixQ)) ((hy.full H)) (by (try simp only [List.length_nil, List.length_append, List.length_cons, List.length_singleton]); omega) ?_; clear H; intro aa ca wk H; simp only [List.set_cons_zero, List.set_cons_succ, List.nil_append] at H)) | refine pvQ ?_ | (refine opk 9 rfl ?_; (refine ost_build1 H rfl rfl rfl evQ lsQ rfl ?_; clear H; intro bk wk H))) | refine Wc.seq ?_ | refine then_n ?_ | refine WL.nil ?_ | refine Wc.region ?_ | refine Wc.block ?_ | refine then_r ?_ | refine then_e ?_ | refine inb_e rfl ?_ | refine inb_o rfl ?_ | refine inb_n ?_ | refine inb_r ?_ | refine Wc.skip ?_ | refine Wc.exit ?_ | refine Wc.ret ?_ | refine Wc.cond_true rfl ?_ | refine Wc.cond_false rfl ?_)
  exact fn_ret1 (v := .slice _ _ _) rfl rfl ⟨_, _, H, _, _, rfl, rfl, rfl⟩
theorem r3_Field (h0 : FH) (w : World) (hs : Sat h0 w) (a : Option Addr) (c : Nat) (xs : List UInt8) (hx : BS h0 a c xs) (hl : xs.length ≤ 900000000) :
    Spec Tryd.prog 125 #[.slice a xs.length c] w [] h0 (fun v h' L' => ∃ a' c', v = .slice a' (fieldB xs).length c' ∧ h' = h0 ∧ L' = [own8 v 5 (fieldB xs)]) := by
  have H := St.start hs
  have hp := putB_len xs.length
  unfold Spec
  refine calls_of Tryd.func125 rfl Tryd.ntmps125 (by simp) ?_
  repeat' (first | ((first | refine WL.p rfl ?_ | refine WL.u ?_); first | (refine opk 1 rfl ?_; first | (refine ost_C H rfl (r2_Put xs.length (by omega) _ _ (sat_full _)) rfl ?_; clear H; rintro vk wk hfk Lk ⟨a1, c1, rfl, _, rfl⟩ H; simp only [List.cons_append, List.nil_append] at H) | (refine ost_C H rfl (r3_Join _ _ (sat_full _) _ _ (putB xs.length) _ _ _ (H.own8rd (i := 0) rfl) (hx.full H) (by omega)) rfl ?_; clear H; rintro vk wk hfk Lk ⟨a2, c2, rfl, _, rfl⟩ H; simp only [List.cons_append, List.nil_append] at H)) | refine pvQ ?_) | refine Wc.seq ?_ | refine then_n ?_ | refine WL.nil ?_ | refine Wc.region ?_ | refine Wc.block ?_ | refine then_r ?_ | refine then_e ?_ | refine inb_e rfl ?_ | refine inb_o rfl ?_ | refine inb_n ?_ | refine inb_r ?_ | refine Wc.skip ?_ | refine Wc.exit ?_ | refine Wc.ret ?_ | refine Wc.cond_true rfl ?_ | refine Wc.cond_false rfl ?_)
  exact fn_ret1 (v := .slice _ _ _) rfl rfl ⟨_, _, H.pick 0 rfl, _, _, rfl, rfl, rfl⟩
abbrev rr (a : Option Addr) (n c : Nat) (e : Int) : Value := .agg [.slice a n c, .int .i64 e].toArray
theorem r3_Num (h0 : FH) (w : World) (hs : Sat h0 w) (a : Option Addr) (c : Nat) (xs : List UInt8) (e : Int) (hr : BS h0 a c xs) :
    Spec Tryd.prog 97 #[rr a xs.length c e] w [] h0 (fun v h' L' => ∃ a' c', v = .tuple #[rr a' (numE e xs).2.2.2.length c' (numE e xs).2.2.1, .int .u64 (numE e xs).1, .int .i64 (numE e xs).2.1] ∧ h' = h0 ∧ L' = [] ∧ BS h0 a' c' (numE e xs).2.2.2) := by
  have H := St.start hs
  have hl := getB_le xs
  have hcap := hr.le
  unfold Spec
  refine calls_of Tryd.func97 rfl Tryd.ntmps97 (by simp) ?_
  by_cases he : e = 0
  · subst he
    by_cases hg : (getB xs).2.2 = 0
    · have en : numE 0 xs = ((getB xs).1, 0, 0, xs.drop (getB xs).2.1) := by unfold numE; rw [if_neg (by simp), if_neg (by simpa using hg)]
      rw [en]
      have hg' : (((getB xs).2.2 : Nat) : Int) = 0 := by omega
      repeat' (first | ((first | refine WL.p rfl ?_ | refine WL.u ?_); first | (refine opk 1 rfl ?_; (refine ost_V H rfl (r2_Get _ _ _ _ _ H.sat hr) rfl ?_; clear H; intro wk H)) | refine pvQ ?_ | (refine opk 3 rfl ?_; (refine ost_cmp rfl rfl rfl rfl (fun hc => ?_) (fun hc => ?_) <;> (simp only [cmpP] at hc; try exact prIQ))) | (refine opk 4 rfl ?_; (refine ost_cmp rfl rfl rfl rfl (fun hc => ?_) (fun hc => ?_) <;> (simp only [cmpP] at hc; try exact prIQ))) | (refine opk 8 rfl ?_; first | (refine ost_store1 H rfl rfl vlQ gvQ ixQ (by first | decide | (simp; omega) | (simp; done) | omega) ?_; clear H; intro wk H; simp only [List.set_cons_zero, List.set_cons_succ, Nat.reduceAdd] at H) | (refine ost_storeW H rfl rfl rfl rfl lQ ixQ lQ okQ ?_; clear H; intro wk H; simp only [List.set_cons_zero, List.set_cons_succ, Nat.reduceAdd] at H)) | (refine opk 9 rfl ?_; first | (refine ost_boxq H rfl ?_; clear H; intro bk wk H) | (refine ost_allocA H rfl ?_; clear H; intro bk wk H))) | refine Wc.seq ?_ | refine then_n ?_ | refine WL.nil ?_ | refine Wc.region ?_ | refine Wc.block ?_ | refine then_r ?_ | refine then_e ?_ | refine inb_e rfl ?_ | refine inb_o rfl ?_ | refine inb_n ?_ | refine inb_r ?_ | refine Wc.skip ?_ | refine Wc.exit ?_ | refine Wc.ret ?_ | refine Wc.cond_true rfl ?_ | refine Wc.cond_false rfl ?_ | (refine Wc.drawn (id := 2) 5 (by kernel_rfl) ?_) | (refine rgs_nil ?_; intro vs wk hE; replace H := H.ext hE; clear hE) | (refine RGs.bq (fun _ => rfl) rfl (by intro vs w hE hP; have H := H.ext hE; first | exact dbQ | fail) (fun hc => ?_) (fun hc => ?_) <;> ((try simp only [cmpP, decide_eq_true_eq, decide_eq_false_iff_not, dcd_iff, dcd_no] at hc); try exact prDQ)) | refine RGs.pq (fun _ => rfl) rfl (by intro vs w hE hP; have H := H.ext hE; first | exact dvQ | fail) ?_)
      exact fn_ret3 (v2 := .int _ _) (v3 := .int _ _) rfl (rv_cellA rfl rfl H.bI lQ) rfl rfl ⟨_, _, H.pick0, _, _, by rw [List.length_drop]; rfl, rfl, rfl, hr.drop hl⟩
    · have en : numE 0 xs = (0, (((getB xs).2.2 : Nat) : Int), (((getB xs).2.2 : Nat) : Int), xs) := by unfold numE; rw [if_neg (by simp), if_pos (by simpa using hg)]
      rw [en]
      have hg' : ¬ (((getB xs).2.2 : Nat) : Int) = 0 := by omega
      repeat' (first | ((first | refine WL.p rfl ?_ | refine WL.u ?_); first | (refine opk 1 rfl ?_; (refine ost_V H rfl (r2_Get _ _ _ _ _ H.sat hr) rfl ?_; clear H; intro wk H)) | refine pvQ ?_ | (refine opk 3 rfl ?_; (refine ost_cmp rfl rfl rfl rfl (fun hc => ?_) (fun hc => ?_) <;> (simp only [cmpP] at hc; try exact prIQ))) | (refine opk 4 rfl ?_; (refine ost_cmp rfl rfl rfl rfl (fun hc => ?_) (fun hc => ?_) <;> (simp only [cmpP] at hc; try exact prIQ))) | (refine opk 8 rfl ?_; first | (refine ost_store1 H rfl rfl vlQ gvQ ixQ (by first | decide | (simp; omega) | (simp; done) | omega) ?_; clear H; intro wk H; simp only [List.set_cons_zero, List.set_cons_succ, Nat.reduceAdd] at H) | (refine ost_storeW H rfl rfl rfl rfl lQ ixQ lQ okQ ?_; clear H; intro wk H; simp only [List.set_cons_zero, List.set_cons_succ, Nat.reduceAdd] at H)) | (refine opk 9 rfl ?_; first | (refine ost_boxq H rfl ?_; clear H; intro bk wk H) | (refine ost_allocA H rfl ?_; clear H; intro bk wk H))) | refine Wc.seq ?_ | refine then_n ?_ | refine WL.nil ?_ | refine Wc.region ?_ | refine Wc.block ?_ | refine then_r ?_ | refine then_e ?_ | refine inb_e rfl ?_ | refine inb_o rfl ?_ | refine inb_n ?_ | refine inb_r ?_ | refine Wc.skip ?_ | refine Wc.exit ?_ | refine Wc.ret ?_ | refine Wc.cond_true rfl ?_ | refine Wc.cond_false rfl ?_ | (refine Wc.drawn (id := 2) 5 (by kernel_rfl) ?_) | (refine rgs_nil ?_; intro vs wk hE; replace H := H.ext hE; clear hE) | (refine RGs.bq (fun _ => rfl) rfl (by intro vs w hE hP; have H := H.ext hE; first | exact dbQ | fail) (fun hc => ?_) (fun hc => ?_) <;> ((try simp only [cmpP, decide_eq_true_eq, decide_eq_false_iff_not, dcd_iff, dcd_no] at hc); try exact prDQ)) | refine RGs.pq (fun _ => rfl) rfl (by intro vs w hE hP; have H := H.ext hE; first | exact dvQ | fail) ?_)
      exact fn_ret3 (v2 := .int _ _) (v3 := .int _ _) rfl (rv_cellA rfl rfl H.bI lQ) rfl rfl ⟨_, _, H.pick0, _, _, rfl, rfl, rfl, hr⟩
  · have en : numE e xs = (0, e, e, xs) := by unfold numE; rw [if_pos he]
    rw [en]
    repeat' (first | ((first | refine WL.p rfl ?_ | refine WL.u ?_); first | refine pvQ ?_ | (refine opk 3 rfl ?_; (refine ost_cmp rfl rfl rfl rfl (fun hc => ?_) (fun hc => ?_) <;> (simp only [cmpP] at hc; try exact prIQ))) | (refine opk 4 rfl ?_; (refine ost_cmp rfl rfl rfl rfl (fun hc => ?_) (fun hc => ?_) <;> (simp only [cmpP] at hc; try exact prIQ))) | (refine opk 8 rfl ?_; first | (refine ost_store1 H rfl rfl vlQ gvQ ixQ (by first | decide | (simp; omega) | (simp; done) | omega) ?_; clear H; intro wk H; simp only [List.set_cons_zero, List.set_cons_succ, Nat.reduceAdd] at H) | (refine ost_storeW H rfl rfl rfl rfl lQ ixQ lQ okQ ?_; clear H; intro wk H; simp only [List.set_cons_zero, List.set_cons_succ, Nat.reduceAdd] at H)) | (refine opk 9 rfl ?_; first | (refine ost_boxq H rfl ?_; clear H; intro bk wk H) | (refine ost_allocA H rfl ?_; clear H; intro bk wk H))) | refine Wc.seq ?_ | refine then_n ?_ | refine WL.nil ?_ | refine Wc.region ?_ | refine Wc.block ?_ | refine then_r ?_ | refine then_e ?_ | refine inb_e rfl ?_ | refine inb_o rfl ?_ | refine inb_n ?_ | refine inb_r ?_ | refine Wc.skip ?_ | refine Wc.exit ?_ | refine Wc.ret ?_ | refine Wc.cond_true rfl ?_ | refine Wc.cond_false rfl ?_ | (refine Wc.drawM (id := 2) 5 [(3, [.blk bk _], fun _ L' => L' = [.blk bk (.cells [.slice a xs.length c, .int .i64 e].toArray 162 (0, 0))])] [.blk _ _] [3] H (by kernel_rfl) rfl (by kernel_rfl) (by simp only [inpL, List.nil_append, List.cons_append, List.append_nil]; first | exact List.Perm.refl _ | exact List.Perm.swap _ _ _ | exact (List.Perm.swap _ _ _).trans ((List.Perm.swap _ _ _).cons _) | exact ((List.Perm.swap _ _ _).cons _) | exact ((List.Perm.swap _ _ _).cons _).trans (List.Perm.swap _ _ _)) ?_) | (refine rgm_nil ?_; intro vs wk outs HM hR; obtain ⟨_, e9_3, -⟩ := hR 3 _ rfl; (try dsimp only at e9_3); simp only [outsL, e9_3, List.cons_append, List.nil_append, List.append_nil] at HM; replace H := HM; clear HM hR) | (refine RGm.bq (fun _ => rfl) rfl (by intro vs w TT hP H; simp only [List.cons_append, List.nil_append] at H; first | exact dbQ | fail) (fun hc => ?_) (fun hc => ?_) <;> ((try simp only [cmpP, decide_eq_true_eq, decide_eq_false_iff_not, dcd_iff, dcd_no] at hc); try exact prDQ)) | refine RGm.pq (fun _ => rfl) rfl (by intro vs w TT hP H; simp only [List.cons_append, List.nil_append] at H; first | exact dvQ | fail) ?_ | refine RGm.mq (fun _ => rfl) rfl (by intro vs w TT hP H; simp only [List.cons_append, List.nil_append] at H; first | (refine ost_storeW H rfl rfl rfl rfl lQ (by (exact ixQ)) lQ (by first | assumption | exact cV_one _ | exact one_set (cV_one _) rfl | exact allOne_of rfl) ?_; intro wk H2; simp only [List.set_cons_zero, List.set_cons_succ, Nat.reduceAdd] at H2; exact ⟨[_], rfl, H2⟩) | fail) ?_ | refine RGm.mu rfl (by intro vs w TT hP H; simp only [List.cons_append, List.nil_append] at H; first | (refine ost_storeW H rfl rfl rfl rfl lQ (by (exact ixQ)) lQ (by first | assumption | exact cV_one _ | exact one_set (cV_one _) rfl | exact allOne_of rfl) ?_; intro wk H2; simp only [List.set_cons_zero, List.set_cons_succ, Nat.reduceAdd] at H2; exact ⟨[_], rfl, H2⟩) | fail) ?_)
    exact fn_ret3 (v2 := .int _ _) (v3 := .int _ _) rfl (rv_cellA rfl rfl H.bI lQ) rfl rfl ⟨_, _, H.pick0, _, _, rfl, rfl, rfl, hr⟩
theorem r3_Bytes (h0 : FH) (w : World) (hs : Sat h0 w) (a : Option Addr) (c : Nat) (xs : List UInt8) (e : Int) (hr : BS h0 a c xs) (hx : xs.length ≤ 1000000000) :
    Spec Tryd.prog 98 #[rr a xs.length c e] w [] h0 (fun v h' L' => ∃ a' c' a2 c2, v = .tuple #[rr a' (bytesE e xs).2.2.2.length c' (bytesE e xs).2.2.1, .slice a2 (bytesE e xs).1.length c2, .int .i64 (bytesE e xs).2.1] ∧ h' = h0 ∧ L' = [] ∧ BS h0 a' c' (bytesE e xs).2.2.2 ∧ BS h0 a2 c2 (bytesE e xs).1) := by
  have H := St.start hs
  have hlt := numE_lt e xs
  have hll := numE_len e xs
  have nil8 : BS h0 none 0 [] := ⟨RdC.nil _ _, by simp, Nat.zero_le _, fun _ => rfl⟩
  unfold Spec
  refine calls_of Tryd.func98 rfl Tryd.ntmps98 (by simp) ?_
  by_cases hn : (numE e xs).2.1 = 0
  · have hz := numE_ok hn
    by_cases hk : (numE e xs).2.2.2.length < (numE e xs).1
    · have eb : bytesE e xs = ([], 4, 4, (numE e xs).2.2.2) := by unfold bytesE; rw [if_neg (by simpa using hn), if_pos hk]
      rw [eb]
      repeat' (first | ((first | refine WL.p rfl ?_ | refine WL.u ?_); first | (refine opk 1 rfl ?_; (refine ost_Sk H rfl (r3_Num _ _ H.sat _ _ _ _ hr) rfl ?_; clear H; rintro vk wk hfk Lk ⟨a1, c1, rfl, rfl, rfl, hr1⟩ hle H; simp only [List.cons_append, List.nil_append] at H)) | refine pvQ ?_ | (refine opk 3 rfl ?_; (refine ost_cmp rfl rfl rfl rfl (fun hc => ?_) (fun hc => ?_) <;> (simp only [cmpP] at hc; try exact prIQ))) | (refine opk 4 rfl ?_; (refine ost_cmp rfl rfl rfl rfl (fun hc => ?_) (fun hc => ?_) <;> (simp only [cmpP] at hc; try exact prIQ))) | (refine opk 8 rfl ?_; first | (refine ost_store1 H rfl rfl vlQ gvQ ixQ (by first | decide | (simp; omega) | (simp; done) | omega) ?_; clear H; intro wk H; simp only [List.set_cons_zero, List.set_cons_succ, Nat.reduceAdd] at H) | (refine ost_storeW H rfl rfl rfl rfl lQ ixQ lQ okQ ?_; clear H; intro wk H; simp only [List.set_cons_zero, List.set_cons_succ, Nat.reduceAdd] at H)) | (refine opk 9 rfl ?_; first | (refine ost_boxq H rfl ?_; clear H; intro bk wk H) | (refine ost_allocA H rfl ?_; clear H; intro bk wk H))) | refine Wc.seq ?_ | refine then_n ?_ | refine WL.nil ?_ | refine Wc.region ?_ | refine Wc.block ?_ | refine then_r ?_ | refine then_e ?_ | refine inb_e rfl ?_ | refine inb_o rfl ?_ | refine inb_n ?_ | refine inb_r ?_ | refine Wc.skip ?_ | refine Wc.exit ?_ | refine Wc.ret ?_ | refine Wc.cond_true rfl ?_ | refine Wc.cond_false rfl ?_)
      exact fn_ret3 (v2 := .slice _ _ _) (v3 := .int _ _) rfl (rv_cellA rfl rfl H.bI lQ) rfl rfl ⟨_, _, H.pick0, _, _, _, _, rfl, rfl, rfl, hr1, nil8⟩
    · have eb : bytesE e xs = ((numE e xs).2.2.2.take (numE e xs).1, 0, 0, (numE e xs).2.2.2.drop (numE e xs).1) := by unfold bytesE; rw [if_neg (by simpa using hn), if_neg hk]
      rw [eb]
      have ht : ((numE e xs).2.2.2.take (numE e xs).1).length = (numE e xs).1 := by simp; omega
      repeat' (first | ((first | refine WL.p rfl ?_ | refine WL.u ?_); first | (refine opk 1 rfl ?_; (refine ost_Sk H rfl (r3_Num _ _ H.sat _ _ _ _ hr) rfl ?_; clear H; rintro vk wk hfk Lk ⟨a1, c1, rfl, rfl, rfl, hr1⟩ hle H; simp only [List.cons_append, List.nil_append] at H)) | refine pvQ ?_ | (refine opk 3 rfl ?_; (refine ost_cmp rfl rfl rfl rfl (fun hc => ?_) (fun hc => ?_) <;> (simp only [cmpP] at hc; try exact prIQ))) | (refine opk 4 rfl ?_; (refine ost_cmp rfl rfl rfl rfl (fun hc => ?_) (fun hc => ?_) <;> (simp only [cmpP] at hc; try exact prIQ))) | (refine opk 8 rfl ?_; first | (refine ost_store1 H rfl rfl vlQ gvQ ixQ (by first | decide | (simp; omega) | (simp; done) | omega) ?_; clear H; intro wk H; simp only [List.set_cons_zero, List.set_cons_succ, Nat.reduceAdd] at H) | (refine ost_storeW H rfl rfl rfl rfl lQ ixQ lQ okQ ?_; clear H; intro wk H; simp only [List.set_cons_zero, List.set_cons_succ, Nat.reduceAdd] at H)) | (refine opk 9 rfl ?_; first | (refine ost_boxq H rfl ?_; clear H; intro bk wk H) | (refine ost_allocA H rfl ?_; clear H; intro bk wk H))) | refine Wc.seq ?_ | refine then_n ?_ | refine WL.nil ?_ | refine Wc.region ?_ | refine Wc.block ?_ | refine then_r ?_ | refine then_e ?_ | refine inb_e rfl ?_ | refine inb_o rfl ?_ | refine inb_n ?_ | refine inb_r ?_ | refine Wc.skip ?_ | refine Wc.exit ?_ | refine Wc.ret ?_ | refine Wc.cond_true rfl ?_ | refine Wc.cond_false rfl ?_)
      rw [hz] at H
      exact fn_ret3 (v2 := .slice _ _ _) (v3 := .int _ _) rfl (rv_cellA rfl rfl H.bI lQ) rfl rfl ⟨_, _, H.pick0, _, _, _, _, by rw [ht, List.length_drop]; rfl, rfl, rfl, hr1.drop (n := (numE e xs).1) (by omega), hr1.take _⟩
  · have eb : bytesE e xs = ([], (numE e xs).2.1, (numE e xs).2.2.1, (numE e xs).2.2.2) := by unfold bytesE; rw [if_pos hn]
    rw [eb]
    repeat' (first | ((first | refine WL.p rfl ?_ | refine WL.u ?_); first | (refine opk 1 rfl ?_; (refine ost_Sk H rfl (r3_Num _ _ H.sat _ _ _ _ hr) rfl ?_; clear H; rintro vk wk hfk Lk ⟨a1, c1, rfl, rfl, rfl, hr1⟩ hle H; simp only [List.cons_append, List.nil_append] at H)) | refine pvQ ?_ | (refine opk 3 rfl ?_; (refine ost_cmp rfl rfl rfl rfl (fun hc => ?_) (fun hc => ?_) <;> (simp only [cmpP] at hc; try exact prIQ))) | (refine opk 4 rfl ?_; (refine ost_cmp rfl rfl rfl rfl (fun hc => ?_) (fun hc => ?_) <;> (simp only [cmpP] at hc; try exact prIQ))) | (refine opk 8 rfl ?_; first | (refine ost_store1 H rfl rfl vlQ gvQ ixQ (by first | decide | (simp; omega) | (simp; done) | omega) ?_; clear H; intro wk H; simp only [List.set_cons_zero, List.set_cons_succ, Nat.reduceAdd] at H) | (refine ost_storeW H rfl rfl rfl rfl lQ ixQ lQ okQ ?_; clear H; intro wk H; simp only [List.set_cons_zero, List.set_cons_succ, Nat.reduceAdd] at H)) | (refine opk 9 rfl ?_; first | (refine ost_boxq H rfl ?_; clear H; intro bk wk H) | (refine ost_allocA H rfl ?_; clear H; intro bk wk H))) | refine Wc.seq ?_ | refine then_n ?_ | refine WL.nil ?_ | refine Wc.region ?_ | refine Wc.block ?_ | refine then_r ?_ | refine then_e ?_ | refine inb_e rfl ?_ | refine inb_o rfl ?_ | refine inb_n ?_ | refine inb_r ?_ | refine Wc.skip ?_ | refine Wc.exit ?_ | refine Wc.ret ?_ | refine Wc.cond_true rfl ?_ | refine Wc.cond_false rfl ?_)
    exact fn_ret3 (v2 := .slice _ _ _) (v3 := .int _ _) rfl (rv_cellA rfl rfl H.bI lQ) rfl rfl ⟨_, _, H.pick0, _, _, _, _, rfl, rfl, rfl, hr1, nil8⟩
end Go.Tg

set_option linter.unusedVariables false
set_option linter.unusedSimpArgs false
set_option maxRecDepth 100000
set_option maxHeartbeats 4000000
namespace Go.Tg
open Go Go.Proofs
def topN : Nat → V16 → Nat
  | 0, _ => 0
  | k + 1, v => if (atV v k).toNat = 0 then topN k v else k + 1
theorem topN_le (k : Nat) (v : V16) : topN k v ≤ k := by
  induction k with
  | zero => exact Nat.le_refl _
  | succ k ih => unfold topN; split <;> omega
def encN (v : V16) (n k : Nat) : List UInt8 := putB n ++ ((List.range k).map fun i => putB (atV v i).toNat).flatten
theorem encN_zero (v : V16) (n : Nat) : encN v n 0 = putB n := by simp [encN]
theorem encN_succ (v : V16) (n k : Nat) : encN v n (k + 1) = encN v n k ++ putB (atV v k).toNat := by simp [encN, List.range_succ, List.flatten_append]
theorem encN_len (v : V16) (n k : Nat) : (encN v n k).length ≤ 11 + 11 * k := by
  induction k with
  | zero => rw [encN_zero]; have := putB_len n; omega
  | succ k ih => rw [encN_succ, List.length_append]; have := putB_len (atV v k).toNat; omega
def encV (v : V16) : List UInt8 := encN v (topN 16 v) (topN 16 v)
theorem atV_lt' (a : V16) {i : Nat} (h : i < 16) : (cV a)[i]? = some (.int .u32 (atV a i).toNat) := by
  rw [cV_get a i h]; simp [atV, h, u32]
theorem vec_Encode (h0 : FH) (a : V16) (w : World) (hs : Sat h0 w) :
    Spec Tryd.prog 90 #[.agg (cV a).toArray] w [] h0 (fun v h' L' => ∃ a' c', v = .slice a' (encV a).length c' ∧ h' = h0 ∧ L' = [own8 v 5 (encV a)]) := by
  have H := St.start hs
  unfold Spec
  refine calls_of Tryd.func90 rfl Tryd.ntmps90 (by simp) ?_
  have la := cV_len a
  repeat' (first | ((first | refine WL.p rfl ?_ | refine WL.u ?_ | refine WL.g rfl rfl ?_ | refine WL.gu rfl ?_); first | refine pvQ ?_ | (refine opk 3 rfl ?_; (refine ost_cmp rfl rfl rfl rfl (fun hc => ?_) (fun hc => ?_) <;> (simp only [cmpP] at hc; try exact prIQ))) | (refine opk 4 rfl ?_; (refine ost_cmp rfl rfl rfl rfl (fun hc => ?_) (fun hc => ?_) <;> (simp only [cmpP] at hc; try exact prIQ))) | (refine opk 9 rfl ?_; (refine ost_boxq H rfl ?_; clear H; intro bk wk H))) | refine Wc.seq ?_ | refine then_n ?_ | refine WL.nil ?_ | refine Wc.region ?_ | refine Wc.block ?_ | refine then_r ?_ | refine then_e ?_ | refine inb_e rfl ?_ | refine inb_o rfl ?_ | refine inb_n ?_ | refine inb_r ?_ | refine Wc.skip ?_ | refine Wc.exit ?_ | refine Wc.ret ?_ | refine Wc.cond_true rfl ?_ | refine Wc.cond_false rfl ?_ | refine WL.skp rfl rfl ?_ | refine WL.sku rfl ?_)
  refine Wc.loopE (fun s0 m s w' => ∃ k : Nat, m = k ∧ k ≤ 16 ∧ Agree [3, 9, 10, 11, 12, 13, 14, 15, 16, 17, 18, 19] s s0 ∧ s 3 = .int .i64 k ∧ topN k a = topN 16 a ∧
    St w [] h0 h0 [.blk bk (.cells (cV a).toArray 65 (0, 0))] w') 16 ⟨16, rfl, by omega, Agree.refl _ _, rfl, rfl, H⟩ ?_
  clear H
  rintro k s w' ⟨_, rfl, hk, hA, e1, ht, H⟩
  obtain ⟨j, rfl⟩ := hA.env1 e1
  clear hA e1
  by_cases hz : 0 < k ∧ (atV a (k - 1)).toNat = 0
  · have g1 : (cV a)[0 + ((k : Int) - 1).toNat * 1]? = some (.int .u32 (atV a (k - 1)).toNat) := by
      rw [show 0 + ((k : Int) - 1).toNat * 1 = k - 1 by omega]; exact atV_lt' a (by omega)
    have ht2 : topN (k - 1) a = topN 16 a := by
      rw [← ht]; obtain ⟨q, rfl⟩ : ∃ q, k = q + 1 := ⟨k - 1, by omega⟩
      simp only [Nat.add_sub_cancel] at hz ⊢; rw [topN, if_pos hz.2]
    repeat' (first | ((first | refine WL.p rfl ?_ | refine WL.u ?_ | refine WL.g rfl rfl ?_ | refine WL.gu rfl ?_); first | refine pvQ ?_ | (refine opk 3 rfl ?_; (refine ost_cmp rfl rfl rfl rfl (fun hc => ?_) (fun hc => ?_) <;> (simp only [cmpP] at hc; try exact prIQ))) | (refine opk 4 rfl ?_; (refine ost_cmp rfl rfl rfl rfl (fun hc => ?_) (fun hc => ?_) <;> (simp only [cmpP] at hc; try exact prIQ))) | (refine opk 9 rfl ?_; (refine ost_boxq H rfl ?_; clear H; intro bk wk H))) | refine Wc.seq ?_ | refine then_n ?_ | refine WL.nil ?_ | refine Wc.region ?_ | refine Wc.block ?_ | refine then_r ?_ | refine then_e ?_ | refine inb_e rfl ?_ | refine inb_o rfl ?_ | refine inb_n ?_ | refine inb_r ?_ | refine Wc.skip ?_ | refine Wc.exit ?_ | refine Wc.ret ?_ | refine Wc.cond_true rfl ?_ | refine Wc.cond_false rfl ?_ | refine WL.skp rfl rfl ?_ | refine WL.sku rfl ?_)
    exact ⟨k - 1, by omega, k - 1, rfl, by omega, by (repeat' (first | exact Agree.refl _ _ | exact Agree.havoc | refine Agree.upd rfl ?_ | refine Agree.hav2 rfl ?_)), by rw [show ((k - 1 : Nat) : Int) = (k : Int) - 1 by omega]; rfl, ht2, H⟩
  · by_cases hk0 : k = 0
    · have ht2 : topN 16 a = k := by rw [← ht, hk0]; rfl
      rw [show encV a = encN a k k by rw [encV, ht2]]
      repeat' (first | ((first | refine WL.p rfl ?_ | refine WL.u ?_ | refine WL.g rfl rfl ?_ | refine WL.gu rfl ?_); first | (refine opk 1 rfl ?_; first | (refine ost_C H rfl (pack_New _ _ (sat_full _)) rfl ?_; clear H; rintro vk wk hfk Lk ⟨b1, rfl, rfl⟩ H; simp only [List.cons_append, List.nil_append] at H) | (refine ost_O (A := .both _ _) H rfl (by (exact ixQ)) (fun HO => pack_Num _ _ _ _ _ _ _ HO k (by omega) (by simp)) rfl ?_; clear H; rintro vk wk hfk Lk ⟨rfl, v2, rfl⟩ H; simp only [List.cons_append, List.nil_append, List.eraseIdx_cons_zero, List.eraseIdx_cons_succ] at H)) | refine pvQ ?_ | (refine opk 3 rfl ?_; (refine ost_cmp rfl rfl rfl rfl (fun hc => ?_) (fun hc => ?_) <;> (simp only [cmpP] at hc; try exact prIQ))) | (refine opk 4 rfl ?_; (refine ost_cmp rfl rfl rfl rfl (fun hc => ?_) (fun hc => ?_) <;> (simp only [cmpP] at hc; try exact prIQ))) | (refine opk 9 rfl ?_; (refine ost_boxq H rfl ?_; clear H; intro bk wk H))) | refine Wc.seq ?_ | refine then_n ?_ | refine WL.nil ?_ | refine Wc.region ?_ | refine Wc.block ?_ | refine then_r ?_ | refine then_e ?_ | refine inb_e rfl ?_ | refine inb_o rfl ?_ | refine inb_n ?_ | refine inb_r ?_ | refine Wc.skip ?_ | refine Wc.exit ?_ | refine Wc.ret ?_ | refine Wc.cond_true rfl ?_ | refine Wc.cond_false rfl ?_ | refine WL.skp rfl rfl ?_ | refine WL.sku rfl ?_)
      rw [layE_ok (by have := putB_len k; simp only [List.length_nil]; omega), List.nil_append, ← encN_zero a k] at H
      refine Wc.loopE (fun s0 m s w' => ∃ (q : Nat) (v : Value), m = k - q ∧ q ≤ k ∧ Agree [6, 28, 29, 30, 31, 32, 33, 34, 35, 36] s s0 ∧ s 28 = .int .i64 q ∧
        St w [] h0 h0 [wr b1 true 0 v (encN a k q), .blk bk (.cells (cV a).toArray 65 (0, 0))] w') k ⟨0, v2, rfl, by omega, Agree.refl _ _, rfl, H⟩ ?_
      clear H
      rintro m s w' ⟨q, v, rfl, hq, hA, e1, H⟩
      obtain ⟨j, rfl⟩ := hA.env1 e1
      clear hA e1
      have hL := encN_len a k q
      by_cases hlt : q < k
      · have g2 := atV_lt' a (i := 0 + (q : Int).toNat * 1) (by omega)
        rw [show atV a (0 + (q : Int).toNat * 1) = atV a q by congr 1; omega] at g2
        have g3 := (atV a q).toNat_lt
        repeat' (first | ((first | refine WL.p rfl ?_ | refine WL.u ?_ | refine WL.g rfl rfl ?_ | refine WL.gu rfl ?_); first | (refine opk 1 rfl ?_; (refine ost_O (A := .both _ _) H rfl (by (exact ixQ)) (fun HO => pack_Num _ _ _ _ _ _ _ HO (atV a q).toNat (by omega) (by omega)) rfl ?_; clear H; rintro vk wk hfk Lk ⟨rfl, v3, rfl⟩ H; simp only [List.cons_append, List.nil_append, List.eraseIdx_cons_zero, List.eraseIdx_cons_succ] at H)) | refine pvQ ?_ | (refine opk 3 rfl ?_; (refine ost_cmp rfl rfl rfl rfl (fun hc => ?_) (fun hc => ?_) <;> (simp only [cmpP] at hc; try exact prIQ))) | (refine opk 4 rfl ?_; (refine ost_cmp rfl rfl rfl rfl (fun hc => ?_) (fun hc => ?_) <;> (simp only [cmpP] at hc; try exact prIQ))) | (refine opk 9 rfl ?_; (refine ost_boxq H rfl ?_; clear H; intro bk wk H))) | refine Wc.seq ?_ | refine then_n ?_ | refine WL.nil ?_ | refine Wc.region ?_ | refine Wc.block ?_ | refine then_r ?_ | refine then_e ?_ | refine inb_e rfl ?_ | refine inb_o rfl ?_ | refine inb_n ?_ | refine inb_r ?_ | refine Wc.skip ?_ | refine Wc.exit ?_ | refine Wc.ret ?_ | refine Wc.cond_true rfl ?_ | refine Wc.cond_false rfl ?_ | refine WL.skp rfl rfl ?_ | refine WL.sku rfl ?_)
        all_goals (rw [layE_ok (by have := putB_len (atV a q).toNat; omega), ← encN_succ] at H; exact ⟨k - (q + 1), by omega, q + 1, v3, rfl, by omega, by (repeat' (first | exact Agree.refl _ _ | exact Agree.havoc | refine Agree.upd rfl ?_ | refine Agree.hav2 rfl ?_)), rfl, H⟩)
      · obtain rfl : q = k := by omega
        have H := H.split
        obtain ⟨av, cv, rfl, -⟩ := H.own8BS (i := 1) rfl
        repeat' (first | ((first | refine WL.p rfl ?_ | refine WL.u ?_ | refine WL.g rfl rfl ?_ | refine WL.gu rfl ?_); first | (refine opk 1 rfl ?_; (refine ost_C H rfl (pack_All_ok b1 _ _ _ (sat_full _) av cv _ _ (H.blk idx0) (H.own8rd (i := 1) rfl) (by omega)) rfl ?_; clear H; rintro vk wk hfk Lk ⟨a1, c1, rfl, rfl⟩ H; simp only [List.cons_append, List.nil_append] at H)) | refine pvQ ?_ | (refine opk 3 rfl ?_; (refine ost_cmp rfl rfl rfl rfl (fun hc => ?_) (fun hc => ?_) <;> (simp only [cmpP] at hc; try exact prIQ))) | (refine opk 4 rfl ?_; (refine ost_cmp rfl rfl rfl rfl (fun hc => ?_) (fun hc => ?_) <;> (simp only [cmpP] at hc; try exact prIQ))) | (refine opk 9 rfl ?_; (refine ost_boxq H rfl ?_; clear H; intro bk wk H))) | refine Wc.seq ?_ | refine then_n ?_ | refine WL.nil ?_ | refine Wc.region ?_ | refine Wc.block ?_ | refine then_r ?_ | refine then_e ?_ | refine inb_e rfl ?_ | refine inb_o rfl ?_ | refine inb_n ?_ | refine inb_r ?_ | refine Wc.skip ?_ | refine Wc.exit ?_ | refine Wc.ret ?_ | refine Wc.cond_true rfl ?_ | refine Wc.cond_false rfl ?_ | refine WL.skp rfl rfl ?_ | refine WL.sku rfl ?_)
        exact fn_ret1 (v := .slice _ _ _) rfl rfl ⟨_, _, H.pick 0 rfl, _, _, rfl, rfl, rfl⟩
    · have g1 : (cV a)[0 + ((k : Int) - 1).toNat * 1]? = some (.int .u32 (atV a (k - 1)).toNat) := by
        rw [show 0 + ((k : Int) - 1).toNat * 1 = k - 1 by omega]; exact atV_lt' a (by omega)
      have ht2 : topN 16 a = k := by
        rw [← ht]; obtain ⟨q, rfl⟩ : ∃ q, k = q + 1 := ⟨k - 1, by omega⟩
        simp only [Nat.add_sub_cancel] at hz ⊢; rw [topN, if_neg (fun h => hz ⟨by omega, h⟩)]
      rw [show encV a = encN a k k by rw [encV, ht2]]
      repeat' (first | ((first | refine WL.p rfl ?_ | refine WL.u ?_ | refine WL.g rfl rfl ?_ | refine WL.gu rfl ?_); first | (refine opk 1 rfl ?_; first | (refine ost_C H rfl (pack_New _ _ (sat_full _)) rfl ?_; clear H; rintro vk wk hfk Lk ⟨b1, rfl, rfl⟩ H; simp only [List.cons_append, List.nil_append] at H) | (refine ost_O (A := .both _ _) H rfl (by (exact ixQ)) (fun HO => pack_Num _ _ _ _ _ _ _ HO k (by omega) (by simp)) rfl ?_; clear H; rintro vk wk hfk Lk ⟨rfl, v2, rfl⟩ H; simp only [List.cons_append, List.nil_append, List.eraseIdx_cons_zero, List.eraseIdx_cons_succ] at H)) | refine pvQ ?_ | (refine opk 3 rfl ?_; (refine ost_cmp rfl rfl rfl rfl (fun hc => ?_) (fun hc => ?_) <;> (simp only [cmpP] at hc; try exact prIQ))) | (refine opk 4 rfl ?_; (refine ost_cmp rfl rfl rfl rfl (fun hc => ?_) (fun hc => ?_) <;> (simp only [cmpP] at hc; try exact prIQ))) | (refine opk 9 rfl ?_; (refine ost_boxq H rfl ?_; clear H; intro bk wk H))) | refine Wc.seq ?_ | refine then_n ?_ | refine WL.nil ?_ | refine Wc.region ?_ | refine Wc.block ?_ | refine then_r ?_ | refine then_e ?_ | refine inb_e rfl ?_ | refine inb_o rfl ?_ | refine inb_n ?_ | refine inb_r ?_ | refine Wc.skip ?_ | refine Wc.exit ?_ | refine Wc.ret ?_ | refine Wc.cond_true rfl ?_ | refine Wc.cond_false rfl ?_ | refine WL.skp rfl rfl ?_ | refine WL.sku rfl ?_)
      rw [layE_ok (by have := putB_len k; simp only [List.length_nil]; omega), List.nil_append, ← encN_zero a k] at H
      refine Wc.loopE (fun s0 m s w' => ∃ (q : Nat) (v : Value), m = k - q ∧ q ≤ k ∧ Agree [6, 28, 29, 30, 31, 32, 33, 34, 35, 36] s s0 ∧ s 28 = .int .i64 q ∧
        St w [] h0 h0 [wr b1 true 0 v (encN a k q), .blk bk (.cells (cV a).toArray 65 (0, 0))] w') k ⟨0, v2, rfl, by omega, Agree.refl _ _, rfl, H⟩ ?_
      clear H
      rintro m s w' ⟨q, v, rfl, hq, hA, e1, H⟩
      obtain ⟨j, rfl⟩ := hA.env1 e1
      clear hA e1
      have hL := encN_len a k q
      by_cases hlt : q < k
      · have g2 := atV_lt' a (i := 0 + (q : Int).toNat * 1) (by omega)
        rw [show atV a (0 + (q : Int).toNat * 1) = atV a q by congr 1; omega] at g2
        have g3 := (atV a q).toNat_lt
        repeat' (first | ((first | refine WL.p rfl ?_ | refine WL.u ?_ | refine WL.g rfl rfl ?_ | refine WL.gu rfl ?_); first | (refine opk 1 rfl ?_; (refine ost_O (A := .both _ _) H rfl (by (exact ixQ)) (fun HO => pack_Num _ _ _ _ _ _ _ HO (atV a q).toNat (by omega) (by omega)) rfl ?_; clear H; rintro vk wk hfk Lk ⟨rfl, v3, rfl⟩ H; simp only [List.cons_append, List.nil_append, List.eraseIdx_cons_zero, List.eraseIdx_cons_succ] at H)) | refine pvQ ?_ | (refine opk 3 rfl ?_; (refine ost_cmp rfl rfl rfl rfl (fun hc => ?_) (fun hc => ?_) <;> (simp only [cmpP] at hc; try exact prIQ))) | (refine opk 4 rfl ?_; (refine ost_cmp rfl rfl rfl rfl (fun hc => ?_) (fun hc => ?_) <;> (simp only [cmpP] at hc; try exact prIQ))) | (refine opk 9 rfl ?_; (refine ost_boxq H rfl ?_; clear H; intro bk wk H))) | refine Wc.seq ?_ | refine then_n ?_ | refine WL.nil ?_ | refine Wc.region ?_ | refine Wc.block ?_ | refine then_r ?_ | refine then_e ?_ | refine inb_e rfl ?_ | refine inb_o rfl ?_ | refine inb_n ?_ | refine inb_r ?_ | refine Wc.skip ?_ | refine Wc.exit ?_ | refine Wc.ret ?_ | refine Wc.cond_true rfl ?_ | refine Wc.cond_false rfl ?_ | refine WL.skp rfl rfl ?_ | refine WL.sku rfl ?_)
        all_goals (rw [layE_ok (by have := putB_len (atV a q).toNat; omega), ← encN_succ] at H; exact ⟨k - (q + 1), by omega, q + 1, v3, rfl, by omega, by (repeat' (first | exact Agree.refl _ _ | exact Agree.havoc | refine Agree.upd rfl ?_ | refine Agree.hav2 rfl ?_)), rfl, H⟩)
      · obtain rfl : q = k := by omega
        have H := H.split
        obtain ⟨av, cv, rfl, -⟩ := H.own8BS (i := 1) rfl
        repeat' (first | ((first | refine WL.p rfl ?_ | refine WL.u ?_ | refine WL.g rfl rfl ?_ | refine WL.gu rfl ?_); first | (refine opk 1 rfl ?_; (refine ost_C H rfl (pack_All_ok b1 _ _ _ (sat_full _) av cv _ _ (H.blk idx0) (H.own8rd (i := 1) rfl) (by omega)) rfl ?_; clear H; rintro vk wk hfk Lk ⟨a1, c1, rfl, rfl⟩ H; simp only [List.cons_append, List.nil_append] at H)) | refine pvQ ?_ | (refine opk 3 rfl ?_; (refine ost_cmp rfl rfl rfl rfl (fun hc => ?_) (fun hc => ?_) <;> (simp only [cmpP] at hc; try exact prIQ))) | (refine opk 4 rfl ?_; (refine ost_cmp rfl rfl rfl rfl (fun hc => ?_) (fun hc => ?_) <;> (simp only [cmpP] at hc; try exact prIQ))) | (refine opk 9 rfl ?_; (refine ost_boxq H rfl ?_; clear H; intro bk wk H))) | refine Wc.seq ?_ | refine then_n ?_ | refine WL.nil ?_ | refine Wc.region ?_ | refine Wc.block ?_ | refine then_r ?_ | refine then_e ?_ | refine inb_e rfl ?_ | refine inb_o rfl ?_ | refine inb_n ?_ | refine inb_r ?_ | refine Wc.skip ?_ | refine Wc.exit ?_ | refine Wc.ret ?_ | refine Wc.cond_true rfl ?_ | refine Wc.cond_false rfl ?_ | refine WL.skp rfl rfl ?_ | refine WL.sku rfl ?_)
        exact fn_ret1 (v := .slice _ _ _) rfl rfl ⟨_, _, H.pick 0 rfl, _, _, rfl, rfl, rfl⟩
end Go.Tg

