/- Contracts of Go functions that the laws reach: what each call answers and leaves in memory, for all arguments within the bounds that each theorem names. -/
import Derived.Test.YthpeejcmkhglmaaInst
import Derived.Test.YthpeejcmkhglmaaAuto
import Derived.Test.YthpeejcmkhglmaaW1
import Derived.Test.YthpeejcmkhglmaaV3
set_option linter.unusedVariables false
set_option linter.unusedSimpArgs false
set_option maxRecDepth 100000
set_option maxHeartbeats 4000000
namespace Go.Tg
open Go Go.Proofs
theorem foldN_lt {n : Int} (h1 : -9223372036854775808 ≤ n) (h2 : n ≤ 9223372036854775807) : foldN n < 18446744073709551616 := by unfold foldN; split <;> omega
theorem pack_Int (b : Nat) (made : Bool) (e : Int) (v : Value) (xs : List UInt8) (g : FH) (w : World) (HO : St w (wr b made e v xs).fp g g [wr b made e v xs] w) (n : Int) (h1 : -9223372036854775808 ≤ n) (h2 : n ≤ 9223372036854775807) (hx : xs.length ≤ 65536) :
    Spec Try.prog 75 #[pt b, .int .i64 n] w (wr b made e v xs).fp g (fun v' h' L' =>
      v' = .int .i64 (layE made e xs (putB (foldN n))).1 ∧ ∃ v2, L' = [wr b made (layE made e xs (putB (foldN n))).2.1 v2 (layE made e xs (putB (foldN n))).2.2]) := by
  have H := HO
  have hp := putB_len (foldN n)
  unfold Spec
  refine calls_of Try.func75 rfl Try.ntmps75 (by simp) ?_
  repeat' (first | ((first | refine WL.p rfl ?_ | refine WL.u ?_); first | (refine opk 1 rfl ?_; first | (refine ost_V H rfl (vint_Fold n h1 h2 _) rfl ?_; clear H; intro wk H) | (refine ost_C H rfl (vint_Put (foldN n) (foldN_lt h1 h2) _ _ (sat_full _)) rfl ?_; clear H; rintro vk wk hfk Lk ⟨a1, c1, rfl, _, rfl⟩ H; simp only [List.cons_append, List.nil_append] at H) | (refine ost_O (A := .both _ _) H rfl (by (exact ixQ)) (fun HO => pack_lay _ _ _ _ _ _ _ HO _ _ _ [putB (foldN n)] (BL.two H idx2 idx0 idx1 (by decide) (by decide)) (by simp) (by simp; omega) hx) rfl ?_; clear H; rintro vk wk hfk Lk ⟨rfl, v2, rfl⟩ H; simp only [List.cons_append, List.nil_append, List.eraseIdx_cons_zero, List.eraseIdx_cons_succ] at H)) | refine pvQ ?_ | (refine opk 9 rfl ?_; (refine ost_build1 H rfl rfl rfl evQ lsQ rfl ?_; clear H; intro bk wk H))) | refine Wc.seq ?_ | refine then_n ?_ | refine WL.nil ?_ | refine Wc.region ?_ | refine Wc.block ?_ | refine then_r ?_ | refine then_e ?_ | refine inb_e rfl ?_ | refine inb_o rfl ?_ | refine inb_n ?_ | refine inb_r ?_ | refine Wc.skip ?_ | refine Wc.exit ?_ | refine Wc.ret ?_ | refine Wc.cond_true rfl ?_ | refine Wc.cond_false rfl ?_)
  have ef : [putB (foldN n)].flatten = putB (foldN n) := by simp
  exact fn_ret1 (v := .int _ _) rfl rfl ⟨_, _, H.pick 0 rfl, by rw [ef], _, by rw [ef]⟩
def fieldB (xs : List UInt8) : List UInt8 := putB xs.length ++ xs
theorem BL.of2 {w : World} {S : List Nat} {ws : World} {h0 h : FH} {L : List HA} (H : St ws S h0 h L w) {i j k b : Nat} {A : HA} {T T8 : TypeId} {v v1 : Value} {xs ys : List UInt8} (hi : L[i]? = some A)
    (hj : L[j]? = some (.own (.slice (some ⟨b, 0, none⟩) 2 2) T 1 2 [v, v1])) (hk : L[k]? = some (own8 v T8 xs)) (hij : i ≠ j) (hik : i ≠ k) (hv : BSv h v1 ys) : BL (less w A.fp) (some ⟨b, 0, none⟩) [v, v1] [xs, ys] := by
  obtain ⟨a, c, e, -, -, hr, -⟩ := H.lessOwn hi hj hij
  injection e with e1 e2 e3
  subst e1
  refine ⟨hr, rfl, fun n hn _ => ?_⟩
  match n, hn with
  | 0, _ => exact H.lessBS hi hk hik
  | 1, _ => exact hv.mono (H.less hi)
theorem pack_Bytes (b : Nat) (made : Bool) (e : Int) (v : Value) (xs : List UInt8) (g : FH) (w : World) (HO : St w (wr b made e v xs).fp g g [wr b made e v xs] w) (a : Option Addr) (c : Nat) (ys : List UInt8) (hr : BS g a c ys) (hy : ys.length ≤ 900000) (hx : xs.length ≤ 65536) :
    Spec Try.prog 76 #[pt b, .slice a ys.length c] w (wr b made e v xs).fp g (fun v' h' L' =>
      v' = .int .i64 (layE made e xs (fieldB ys)).1 ∧ ∃ v2, L' = [wr b made (layE made e xs (fieldB ys)).2.1 v2 (layE made e xs (fieldB ys)).2.2]) := by
  have H := HO
  have hp := putB_len ys.length
  unfold Spec
  refine calls_of Try.func76 rfl Try.ntmps76 (by simp) ?_
  repeat' (first | ((first | refine WL.p rfl ?_ | refine WL.u ?_); first | (refine opk 1 rfl ?_; first | (refine ost_C H rfl (vint_Put ys.length (by omega) _ _ (sat_full _)) rfl ?_; clear H; rintro vk wk hfk Lk ⟨a1, c1, rfl, _, rfl⟩ H; simp only [List.cons_append, List.nil_append] at H) | (refine ost_O (A := .both _ _) H rfl (by (exact ixQ)) (fun HO => pack_lay _ _ _ _ _ _ _ HO _ _ _ [putB ys.length, ys] (BL.of2 H idx2 idx0 idx1 (by decide) (by decide) ⟨_, _, rfl, hr⟩) (by simp) (by simp; omega) hx) rfl ?_; clear H; rintro vk wk hfk Lk ⟨rfl, v2, rfl⟩ H; simp only [List.cons_append, List.nil_append, List.eraseIdx_cons_zero, List.eraseIdx_cons_succ] at H)) | refine pvQ ?_ | (refine opk 9 rfl ?_; (refine ost_build1 H rfl rfl rfl evQ lsQ rfl ?_; clear H; intro bk wk H))) | refine Wc.seq ?_ | refine then_n ?_ | refine WL.nil ?_ | refine Wc.region ?_ | refine Wc.block ?_ | refine then_r ?_ | refine then_e ?_ | refine inb_e rfl ?_ | refine inb_o rfl ?_ | refine inb_n ?_ | refine inb_r ?_ | refine Wc.skip ?_ | refine Wc.exit ?_ | refine Wc.ret ?_ | refine Wc.cond_true rfl ?_ | refine Wc.cond_false rfl ?_)
  have ef : [putB ys.length, ys].flatten = fieldB ys := by simp [fieldB]
  exact fn_ret1 (v := .int _ _) rfl rfl ⟨_, _, H.pick 0 rfl, by rw [ef], _, by rw [ef]⟩
/-- A reader. -/
abbrev rdr (b : Nat) (made : Bool) (e : Int) (a : Option Addr) (n c : Nat) : HA := .blk b (.cells [.bool made, .int .i64 e, .slice a n c].toArray 59 (0, 0))
theorem pack_Read (h0 : FH) (a : Option Addr) (c : Nat) (xs : List UInt8) (w : World) (hs : Sat h0 w) (hr : BS h0 a c xs) (hb : xs.length ≤ 1000000000) :
    Spec Try.prog 29 #[.slice a xs.length c] w [] h0 (fun v h' L' => ∃ b a' c', v = pt b ∧ BS h' a' c' xs ∧ L' = [rdr b true 0 a' xs.length c']) := by
  have H := St.start hs
  unfold Spec
  refine calls_of Try.func29 rfl Try.ntmps29 (by simp) ?_
  repeat' (first | ((first | refine WL.p rfl ?_ | refine WL.u ?_); first | (refine opk 1 rfl ?_; (refine ost_Sk H rfl (clone8 _ _ _ _ _ H.sat hr hb) rfl ?_; clear H; rintro vk wk hfk Lk ⟨a1, c1, rfl, rfl, rfl⟩ hle H; simp only [List.cons_append, List.nil_append] at H)) | refine pvQ ?_ | (refine opk 9 rfl ?_; (refine ost_boxq H rfl ?_; clear H; intro bk wk H))) | refine Wc.seq ?_ | refine then_n ?_ | refine WL.nil ?_ | refine Wc.region ?_ | refine Wc.block ?_ | refine then_r ?_ | refine then_e ?_ | refine inb_e rfl ?_ | refine inb_o rfl ?_ | refine inb_n ?_ | refine inb_r ?_ | refine Wc.skip ?_ | refine Wc.exit ?_ | refine Wc.ret ?_ | refine Wc.cond_true rfl ?_ | refine Wc.cond_false rfl ?_)
  obtain ⟨a2, c2, h2, e2, hle2, hr2, H⟩ := (H.front 1 rfl).freeze8
  cases e2
  exact fn_ret1 (v := .pointer _) rfl rfl ⟨_, _, H, _, _, _, rfl, hr2, rfl⟩
/-- A number that is taken: it, what is answered, the error that stays, what is left. -/
def numE (e : Int) (xs : List UInt8) : Nat × Int × Int × List UInt8 :=
  if e ≠ 0 then (0, e, e, xs) else if (getB xs).2.2 ≠ 0 then (0, (((getB xs).2.2 : Nat) : Int), (((getB xs).2.2 : Nat) : Int), xs) else ((getB xs).1, 0, 0, xs.drop (getB xs).2.1)
theorem numE_lt (e : Int) (xs : List UInt8) : (numE e xs).1 < 18446744073709551616 := by
  have := getB_lt xs
  unfold numE; split
  · simp
  · split <;> simp; omega
theorem rd_Num (b : Nat) (e : Int) (a : Option Addr) (c : Nat) (xs : List UInt8) (g : FH) (w : World) (HO : St w [b] g g [rdr b true e a xs.length c] w) (hr : BS g a c xs) :
    Spec Try.prog 30 #[pt b] w [b] g (fun v' h' L' => v' = .tuple #[.int .u64 (numE e xs).1, .int .i64 (numE e xs).2.1] ∧ h' = g ∧ ∃ a' c', BS g a' c' (numE e xs).2.2.2 ∧ L' = [rdr b true (numE e xs).2.2.1 a' (numE e xs).2.2.2.length c']) := by
  have H := HO
  have hl := getB_le xs
  have hcap := hr.le
  unfold Spec
  refine calls_of Try.func30 rfl Try.ntmps30 (by simp) ?_
  by_cases he : e = 0
  · subst he
    by_cases hg : (getB xs).2.2 = 0
    · have en : numE 0 xs = ((getB xs).1, 0, 0, xs.drop (getB xs).2.1) := by unfold numE; rw [if_neg (by simp), if_neg (by simpa using hg)]
      rw [en]
      have hg' : (((getB xs).2.2 : Nat) : Int) = 0 := by omega
      repeat' (first | ((first | refine WL.p rfl ?_ | refine WL.u ?_ | refine WL.g rfl rfl ?_ | refine WL.gu rfl ?_); first | (refine opk 1 rfl ?_; (refine ost_V H rfl (vint_Get _ _ _ _ _ H.sat hr) rfl ?_; clear H; intro wk H)) | refine pvQ ?_ | (refine opk 3 rfl ?_; first | (refine ost_cmp rfl rfl rfl rfl (fun hc => ?_) (fun hc => ?_) <;> (simp only [cmpP] at hc; try exact prIQ)) | (refine ost_ptEq rfl rfl rfl (fun hc => ?_) (fun hc => ?_) <;> try (simp at hc; done)) | (refine ost_ptNe rfl rfl rfl (fun hc => ?_) (fun hc => ?_) <;> try (simp at hc; done))) | (refine opk 4 rfl ?_; (refine ost_cmp rfl rfl rfl rfl (fun hc => ?_) (fun hc => ?_) <;> (simp only [cmpP] at hc; try exact prIQ))) | (refine opk 8 rfl ?_; (refine ost_store1 H rfl rfl vlQ gvQ ixQ (by first | decide | (simp; omega) | (simp; done) | omega) ?_; clear H; intro wk H; simp only [List.set_cons_zero, List.set_cons_succ, Nat.reduceAdd] at H))) | refine Wc.seq ?_ | refine then_n ?_ | refine WL.nil ?_ | refine Wc.region ?_ | refine Wc.block ?_ | refine then_r ?_ | refine then_e ?_ | refine inb_e rfl ?_ | refine inb_o rfl ?_ | refine inb_n ?_ | refine inb_r ?_ | refine Wc.skip ?_ | refine Wc.exit ?_ | refine Wc.ret ?_ | refine Wc.cond_true rfl ?_ | refine Wc.cond_false rfl ?_ | (refine Wc.drawn (id := 4) 6 (by kernel_rfl) ?_) | refine WL.skp rfl rfl ?_ | refine WL.sku rfl ?_ | (refine rgs_nil ?_; intro vs wk hE; replace H := H.ext hE; clear hE) | refine RGs.skp (fun _ => rfl) rfl ?_ | (refine RGs.bq (fun _ => rfl) rfl (by intro vs w hE hP; have H := H.ext hE; first | exact dbQ | fail) (fun hc => ?_) (fun hc => ?_) <;> ((try simp only [cmpP, decide_eq_true_eq, decide_eq_false_iff_not, dcd_iff, dcd_no] at hc); try exact prDQ)) | refine RGs.pq (fun _ => rfl) rfl (by intro vs w hE hP; have H := H.ext hE; first | exact dvQ | fail) ?_)
      exact fn_ret2 (v1 := .int _ _) (v2 := .int _ _) rfl rfl rfl ⟨_, _, H, rfl, rfl, _, _, hr.drop hl, by rw [List.length_drop]; rfl⟩
    · have en : numE 0 xs = (0, (((getB xs).2.2 : Nat) : Int), (((getB xs).2.2 : Nat) : Int), xs) := by unfold numE; rw [if_neg (by simp), if_pos (by simpa using hg)]
      rw [en]
      have hg' : ¬ (((getB xs).2.2 : Nat) : Int) = 0 := by omega
      repeat' (first | ((first | refine WL.p rfl ?_ | refine WL.u ?_ | refine WL.g rfl rfl ?_ | refine WL.gu rfl ?_); first | (refine opk 1 rfl ?_; first | (refine ost_V H rfl (vint_Get _ _ _ _ _ H.sat hr) rfl ?_; clear H; intro wk H) | (refine ost_O (A := .blk _ _) H rfl (by (exact ixQ)) (fun HO => stop_fail _ _ _ _ _ _ _ _ HO rfl) rfl ?_; clear H; rintro vk wk hfk Lk ⟨rfl, rfl⟩ H; simp only [List.cons_append, List.nil_append, List.eraseIdx_cons_zero, List.eraseIdx_cons_succ] at H)) | refine pvQ ?_ | (refine opk 3 rfl ?_; first | (refine ost_cmp rfl rfl rfl rfl (fun hc => ?_) (fun hc => ?_) <;> (simp only [cmpP] at hc; try exact prIQ)) | (refine ost_ptEq rfl rfl rfl (fun hc => ?_) (fun hc => ?_) <;> try (simp at hc; done)) | (refine ost_ptNe rfl rfl rfl (fun hc => ?_) (fun hc => ?_) <;> try (simp at hc; done))) | (refine opk 4 rfl ?_; (refine ost_cmp rfl rfl rfl rfl (fun hc => ?_) (fun hc => ?_) <;> (simp only [cmpP] at hc; try exact prIQ))) | (refine opk 8 rfl ?_; (refine ost_store1 H rfl rfl vlQ gvQ ixQ (by first | decide | (simp; omega) | (simp; done) | omega) ?_; clear H; intro wk H; simp only [List.set_cons_zero, List.set_cons_succ, Nat.reduceAdd] at H))) | refine Wc.seq ?_ | refine then_n ?_ | refine WL.nil ?_ | refine Wc.region ?_ | refine Wc.block ?_ | refine then_r ?_ | refine then_e ?_ | refine inb_e rfl ?_ | refine inb_o rfl ?_ | refine inb_n ?_ | refine inb_r ?_ | refine Wc.skip ?_ | refine Wc.exit ?_ | refine Wc.ret ?_ | refine Wc.cond_true rfl ?_ | refine Wc.cond_false rfl ?_ | (refine Wc.drawn (id := 4) 6 (by kernel_rfl) ?_) | refine WL.skp rfl rfl ?_ | refine WL.sku rfl ?_ | (refine rgs_nil ?_; intro vs wk hE; replace H := H.ext hE; clear hE) | refine RGs.skp (fun _ => rfl) rfl ?_ | (refine RGs.bq (fun _ => rfl) rfl (by intro vs w hE hP; have H := H.ext hE; first | exact dbQ | fail) (fun hc => ?_) (fun hc => ?_) <;> ((try simp only [cmpP, decide_eq_true_eq, decide_eq_false_iff_not, dcd_iff, dcd_no] at hc); try exact prDQ)) | refine RGs.pq (fun _ => rfl) rfl (by intro vs w hE hP; have H := H.ext hE; first | exact dvQ | fail) ?_)
      exact fn_ret2 (v1 := .int _ _) (v2 := .int _ _) rfl rfl rfl ⟨_, _, H, rfl, rfl, _, _, hr, rfl⟩
  · have en : numE e xs = (0, e, e, xs) := by unfold numE; rw [if_pos he]
    rw [en]
    repeat' (first | ((first | refine WL.p rfl ?_ | refine WL.u ?_ | refine WL.g rfl rfl ?_ | refine WL.gu rfl ?_); first | refine pvQ ?_ | (refine opk 3 rfl ?_; first | (refine ost_cmp rfl rfl rfl rfl (fun hc => ?_) (fun hc => ?_) <;> (simp only [cmpP] at hc; try exact prIQ)) | (refine ost_ptEq rfl rfl rfl (fun hc => ?_) (fun hc => ?_) <;> try (simp at hc; done)) | (refine ost_ptNe rfl rfl rfl (fun hc => ?_) (fun hc => ?_) <;> try (simp at hc; done))) | (refine opk 4 rfl ?_; (refine ost_cmp rfl rfl rfl rfl (fun hc => ?_) (fun hc => ?_) <;> (simp only [cmpP] at hc; try exact prIQ))) | (refine opk 8 rfl ?_; (refine ost_store1 H rfl rfl vlQ gvQ ixQ (by first | decide | (simp; omega) | (simp; done) | omega) ?_; clear H; intro wk H; simp only [List.set_cons_zero, List.set_cons_succ, Nat.reduceAdd] at H))) | refine Wc.seq ?_ | refine then_n ?_ | refine WL.nil ?_ | refine Wc.region ?_ | refine Wc.block ?_ | refine then_r ?_ | refine then_e ?_ | refine inb_e rfl ?_ | refine inb_o rfl ?_ | refine inb_n ?_ | refine inb_r ?_ | refine Wc.skip ?_ | refine Wc.exit ?_ | refine Wc.ret ?_ | refine Wc.cond_true rfl ?_ | refine Wc.cond_false rfl ?_ | (refine Wc.drawn (id := 4) 6 (by kernel_rfl) ?_) | refine WL.skp rfl rfl ?_ | refine WL.sku rfl ?_ | (refine rgs_nil ?_; intro vs wk hE; replace H := H.ext hE; clear hE) | refine RGs.skp (fun _ => rfl) rfl ?_ | (refine RGs.bq (fun _ => rfl) rfl (by intro vs w hE hP; have H := H.ext hE; first | exact dbQ | fail) (fun hc => ?_) (fun hc => ?_) <;> ((try simp only [cmpP, decide_eq_true_eq, decide_eq_false_iff_not, dcd_iff, dcd_no] at hc); try exact prDQ)) | refine RGs.pq (fun _ => rfl) rfl (by intro vs w hE hP; have H := H.ext hE; first | exact dvQ | fail) ?_)
    exact fn_ret2 (v1 := .int _ _) (v2 := .int _ _) rfl rfl rfl ⟨_, _, H, rfl, rfl, _, _, hr, rfl⟩
theorem rd_Int (b : Nat) (e : Int) (a : Option Addr) (c : Nat) (xs : List UInt8) (g : FH) (w : World) (HO : St w [b] g g [rdr b true e a xs.length c] w) (hr : BS g a c xs) :
    Spec Try.prog 32 #[pt b] w [b] g (fun v' h' L' => v' = .tuple #[.int .i64 (unfoldI (numE e xs).1), .int .i64 (numE e xs).2.1] ∧ h' = g ∧ ∃ a' c', BS g a' c' (numE e xs).2.2.2 ∧ L' = [rdr b true (numE e xs).2.2.1 a' (numE e xs).2.2.2.length c']) := by
  have H := HO
  unfold Spec
  refine calls_of Try.func32 rfl Try.ntmps32 (by simp) ?_
  repeat' (first | ((first | refine WL.p rfl ?_ | refine WL.u ?_); first | (refine opk 1 rfl ?_; first | (refine ost_H (A := .blk _ _) H rfl (by (exact ixQ)) (fun HO => rd_Num _ _ _ _ _ _ _ HO hr) rfl ?_; clear H; rintro vk wk hfk Lk ⟨rfl, rfl, a1, c1, hr1, rfl⟩ hle H; simp only [List.cons_append, List.nil_append, List.eraseIdx_cons_zero, List.eraseIdx_cons_succ] at H) | (refine ost_V H rfl (vint_Unfold _ (numE_lt _ _) _) rfl ?_; clear H; intro wk H)) | refine pvQ ?_) | refine Wc.seq ?_ | refine then_n ?_ | refine WL.nil ?_ | refine Wc.region ?_ | refine Wc.block ?_ | refine then_r ?_ | refine then_e ?_ | refine inb_e rfl ?_ | refine inb_o rfl ?_ | refine inb_n ?_ | refine inb_r ?_ | refine Wc.skip ?_ | refine Wc.exit ?_ | refine Wc.ret ?_ | refine Wc.cond_true rfl ?_ | refine Wc.cond_false rfl ?_)
  exact fn_ret2 (v1 := .int _ _) (v2 := .int _ _) rfl rfl rfl ⟨_, _, H, rfl, rfl, _, _, hr1, rfl⟩
/-- Bytes that are taken: they, what is answered, the error that stays, what is left. -/
def bytesE (e : Int) (xs : List UInt8) : List UInt8 × Int × Int × List UInt8 :=
  if (numE e xs).2.1 ≠ 0 then ([], (numE e xs).2.1, (numE e xs).2.2.1, (numE e xs).2.2.2)
  else if (numE e xs).2.2.2.length < (numE e xs).1 then ([], 4, 4, (numE e xs).2.2.2)
  else ((numE e xs).2.2.2.take (numE e xs).1, 0, 0, (numE e xs).2.2.2.drop (numE e xs).1)
theorem numE_ok {e : Int} {xs : List UInt8} (h : (numE e xs).2.1 = 0) : (numE e xs).2.2.1 = 0 := by
  unfold numE at h ⊢; split
  · rename_i he; rw [if_pos he] at h; exact h
  · rename_i he; rw [if_neg he] at h
    split
    · rename_i hg; rw [if_pos hg] at h; exact h
    · rfl
theorem numE_len (e : Int) (xs : List UInt8) : (numE e xs).2.2.2.length ≤ xs.length := by
  unfold numE; split
  · exact Nat.le_refl _
  · split
    · exact Nat.le_refl _
    · simp
theorem rd_Bytes (b : Nat) (e : Int) (a : Option Addr) (c : Nat) (xs : List UInt8) (g : FH) (w : World) (HO : St w [b] g g [rdr b true e a xs.length c] w) (hr : BS g a c xs) (hx : xs.length ≤ 1000000000) :
    Spec Try.prog 34 #[pt b] w [b] g (fun v' h' L' => ∃ a2 c2 a' c', v' = .tuple #[.slice a2 (bytesE e xs).1.length c2, .int .i64 (bytesE e xs).2.1] ∧ h' = g ∧ BS g a' c' (bytesE e xs).2.2.2 ∧
      L' = [own8 (.slice a2 (bytesE e xs).1.length c2) 5 (bytesE e xs).1, rdr b true (bytesE e xs).2.2.1 a' (bytesE e xs).2.2.2.length c']) := by
  have H := HO
  have hlt := numE_lt e xs
  have hll := numE_len e xs
  unfold Spec
  refine calls_of Try.func34 rfl Try.ntmps34 (by simp) ?_
  by_cases hn : (numE e xs).2.1 = 0
  · have hz := numE_ok hn
    by_cases hk : (numE e xs).2.2.2.length < (numE e xs).1
    · have eb : bytesE e xs = ([], 4, 4, (numE e xs).2.2.2) := by unfold bytesE; rw [if_neg (by simpa using hn), if_pos hk]
      rw [eb]
      repeat' (first | ((first | refine WL.p rfl ?_ | refine WL.u ?_); first | (refine opk 1 rfl ?_; first | (refine ost_H (A := .blk _ _) H rfl (by (exact ixQ)) (fun HO => rd_Num _ _ _ _ _ _ _ HO hr) rfl ?_; clear H; rintro vk wk hfk Lk ⟨rfl, rfl, a1, c1, hr1, rfl⟩ hle H; simp only [List.cons_append, List.nil_append, List.eraseIdx_cons_zero, List.eraseIdx_cons_succ] at H) | (refine ost_O (A := .blk _ _) H rfl (by (exact ixQ)) (fun HO => stop_fail _ _ _ _ _ _ _ _ HO hz) rfl ?_; clear H; rintro vk wk hfk Lk ⟨rfl, rfl⟩ H; simp only [List.cons_append, List.nil_append, List.eraseIdx_cons_zero, List.eraseIdx_cons_succ] at H)) | refine pvQ ?_ | (refine opk 3 rfl ?_; (refine ost_cmp rfl rfl rfl rfl (fun hc => ?_) (fun hc => ?_) <;> (simp only [cmpP] at hc; try exact prIQ))) | (refine opk 4 rfl ?_; (refine ost_cmp rfl rfl rfl rfl (fun hc => ?_) (fun hc => ?_) <;> (simp only [cmpP] at hc; try exact prIQ))) | (refine opk 8 rfl ?_; (refine ost_store1 H rfl rfl vlQ gvQ ixQ (by first | decide | (simp; omega) | (simp; done) | omega) ?_; clear H; intro wk H; simp only [List.set_cons_zero, List.set_cons_succ, Nat.reduceAdd] at H))) | refine Wc.seq ?_ | refine then_n ?_ | refine WL.nil ?_ | refine Wc.region ?_ | refine Wc.block ?_ | refine then_r ?_ | refine then_e ?_ | refine inb_e rfl ?_ | refine inb_o rfl ?_ | refine inb_n ?_ | refine inb_r ?_ | refine Wc.skip ?_ | refine Wc.exit ?_ | refine Wc.ret ?_ | refine Wc.cond_true rfl ?_ | refine Wc.cond_false rfl ?_)
      exact fn_ret2 (v1 := .slice _ _ _) (v2 := .int _ _) rfl rfl rfl ⟨_, _, H.nil8 5, _, _, _, _, rfl, rfl, hr1, rfl⟩
    · have eb : bytesE e xs = ((numE e xs).2.2.2.take (numE e xs).1, 0, 0, (numE e xs).2.2.2.drop (numE e xs).1) := by unfold bytesE; rw [if_neg (by simpa using hn), if_neg hk]
      rw [eb]
      have ht : ((numE e xs).2.2.2.take (numE e xs).1).length = (numE e xs).1 := by simp; omega
      have hcl : ∀ (h0 : FH) (a : Option Addr) (c : Nat) (w : World) (hs : Sat h0 w) (hr : BS h0 a c (numE e xs).2.2.2), Spec Try.prog 81 #[.slice a (numE e xs).1 c] w [] h0 (fun v h' L' => ∃ a' c', v = .slice a' (numE e xs).1 c' ∧ h' = h0 ∧ L' = [own8 v 5 ((numE e xs).2.2.2.take (numE e xs).1)]) := fun h0 a c w hs hr => by
        have := clone8 h0 a c _ w hs (hr.take (numE e xs).1) (by rw [ht]; omega)
        rw [ht] at this; exact this
      repeat' (first | ((first | refine WL.p rfl ?_ | refine WL.u ?_); first | (refine opk 1 rfl ?_; first | (refine ost_H (A := .blk _ _) H rfl (by (exact ixQ)) (fun HO => rd_Num _ _ _ _ _ _ _ HO hr) rfl ?_; clear H; rintro vk wk hfk Lk ⟨rfl, rfl, a1, c1, hr1, rfl⟩ hle H; simp only [List.cons_append, List.nil_append, List.eraseIdx_cons_zero, List.eraseIdx_cons_succ] at H) | (refine ost_Sk H rfl (hcl _ _ _ _ H.sat hr1) rfl ?_; clear H; rintro vk wk hfk Lk ⟨a2, c2, rfl, rfl, rfl⟩ hle H; simp only [List.cons_append, List.nil_append] at H)) | refine pvQ ?_ | (refine opk 3 rfl ?_; (refine ost_cmp rfl rfl rfl rfl (fun hc => ?_) (fun hc => ?_) <;> (simp only [cmpP] at hc; try exact prIQ))) | (refine opk 4 rfl ?_; (refine ost_cmp rfl rfl rfl rfl (fun hc => ?_) (fun hc => ?_) <;> (simp only [cmpP] at hc; try exact prIQ))) | (refine opk 8 rfl ?_; (refine ost_store1 H rfl rfl vlQ gvQ ixQ (by first | decide | (simp; omega) | (simp; done) | omega) ?_; clear H; intro wk H; simp only [List.set_cons_zero, List.set_cons_succ, Nat.reduceAdd] at H))) | refine Wc.seq ?_ | refine then_n ?_ | refine WL.nil ?_ | refine Wc.region ?_ | refine Wc.block ?_ | refine then_r ?_ | refine then_e ?_ | refine inb_e rfl ?_ | refine inb_o rfl ?_ | refine inb_n ?_ | refine inb_r ?_ | refine Wc.skip ?_ | refine Wc.exit ?_ | refine Wc.ret ?_ | refine Wc.cond_true rfl ?_ | refine Wc.cond_false rfl ?_)
      rw [hz] at H
      exact fn_ret2 (v1 := .slice _ _ _) (v2 := .int _ _) rfl rfl rfl ⟨_, _, H, _, _, _, _, by rw [ht], rfl, hr1.drop (n := (numE e xs).1) (by omega), by rw [List.length_drop, ht]; rfl⟩
  · have eb : bytesE e xs = ([], (numE e xs).2.1, (numE e xs).2.2.1, (numE e xs).2.2.2) := by unfold bytesE; rw [if_pos hn]
    rw [eb]
    repeat' (first | ((first | refine WL.p rfl ?_ | refine WL.u ?_); first | (refine opk 1 rfl ?_; (refine ost_H (A := .blk _ _) H rfl (by (exact ixQ)) (fun HO => rd_Num _ _ _ _ _ _ _ HO hr) rfl ?_; clear H; rintro vk wk hfk Lk ⟨rfl, rfl, a1, c1, hr1, rfl⟩ hle H; simp only [List.cons_append, List.nil_append, List.eraseIdx_cons_zero, List.eraseIdx_cons_succ] at H)) | refine pvQ ?_ | (refine opk 3 rfl ?_; (refine ost_cmp rfl rfl rfl rfl (fun hc => ?_) (fun hc => ?_) <;> (simp only [cmpP] at hc; try exact prIQ))) | (refine opk 4 rfl ?_; (refine ost_cmp rfl rfl rfl rfl (fun hc => ?_) (fun hc => ?_) <;> (simp only [cmpP] at hc; try exact prIQ))) | (refine opk 8 rfl ?_; (refine ost_store1 H rfl rfl vlQ gvQ ixQ (by first | decide | (simp; omega) | (simp; done) | omega) ?_; clear H; intro wk H; simp only [List.set_cons_zero, List.set_cons_succ, Nat.reduceAdd] at H))) | refine Wc.seq ?_ | refine then_n ?_ | refine WL.nil ?_ | refine Wc.region ?_ | refine Wc.block ?_ | refine then_r ?_ | refine then_e ?_ | refine inb_e rfl ?_ | refine inb_o rfl ?_ | refine inb_n ?_ | refine inb_r ?_ | refine Wc.skip ?_ | refine Wc.exit ?_ | refine Wc.ret ?_ | refine Wc.cond_true rfl ?_ | refine Wc.cond_false rfl ?_)
    exact fn_ret2 (v1 := .slice _ _ _) (v2 := .int _ _) rfl rfl rfl ⟨_, _, H.nil8 5, _, _, _, _, rfl, rfl, hr1, rfl⟩
def doneE (e : Int) (xs : List UInt8) : Bool := decide (e = 0) && decide (xs.length = 0)
theorem rd_Done (b : Nat) (e : Int) (a : Option Addr) (c n : Nat) (w : World) {T : TypeId} {fr : Nat × Nat} (hb : w.heap[b]? = some (.cells [.bool true, .int .i64 e, .slice a n c].toArray T fr)) :
    SpecV Try.prog 36 #[pt b] w (.bool (decide (e = 0) && decide (n = 0))) := by
  have H := St.start (sat_full w)
  have hb' : full w b = some (.cells [.bool true, .int .i64 e, .slice a n c].toArray T fr) := hb
  unfold SpecV
  refine calls_of Try.func36 rfl Try.ntmps36 (by simp) ?_
  repeat' (first | ((first | refine WL.p rfl ?_ | refine WL.u ?_ | refine WL.g rfl rfl ?_ | refine WL.gu rfl ?_); first | refine pvQ ?_ | (refine opk 3 rfl ?_; first | (refine ost_cmp rfl rfl rfl rfl (fun hc => ?_) (fun hc => ?_) <;> (simp only [cmpP] at hc; try exact prIQ)) | (refine ost_ptEq rfl rfl rfl (fun hc => ?_) (fun hc => ?_) <;> try (simp at hc; done)) | (refine ost_ptNe rfl rfl rfl (fun hc => ?_) (fun hc => ?_) <;> try (simp at hc; done))) | (refine opk 4 rfl ?_; (refine ost_cmp rfl rfl rfl rfl (fun hc => ?_) (fun hc => ?_) <;> (simp only [cmpP] at hc; try exact prIQ)))) | refine Wc.seq ?_ | refine then_n ?_ | refine WL.nil ?_ | refine Wc.region ?_ | refine Wc.block ?_ | refine then_r ?_ | refine then_e ?_ | refine inb_e rfl ?_ | refine inb_o rfl ?_ | refine inb_n ?_ | refine inb_r ?_ | refine Wc.skip ?_ | refine Wc.exit ?_ | refine Wc.ret ?_ | refine Wc.cond_true rfl ?_ | refine Wc.cond_false rfl ?_ | refine WL.skp rfl rfl ?_ | refine WL.sku rfl ?_)
  all_goals ((first | refine fn_ret1 (v := .bool _) rfl rfl ⟨?_, H.fr⟩ | refine fn_ret1 (v := .int _ _) rfl rfl ⟨?_, H.fr⟩ | refine fn_ret1 (v := .string _) rfl rfl ⟨?_, H.fr⟩); congr 1; simp; omega)
end Go.Tg
