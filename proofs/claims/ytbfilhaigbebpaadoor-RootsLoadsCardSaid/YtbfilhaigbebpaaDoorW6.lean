/- Contracts of Go functions that the laws reach: what each call answers and leaves in memory, for all arguments within the bounds that each theorem names. -/
import Derived.Test.YtbfilhaigbebpaaDoorInst
import Derived.Test.YtbfilhaigbebpaaDoorAuto
import Derived.Test.YtbfilhaigbebpaaDoorMov
import Derived.Test.YtbfilhaigbebpaaDoorW2
import Derived.Test.YtbfilhaigbebpaaDoorChecked
import Derived.Test.YtbfilhaigbebpaaDoorRows
import Derived.Test.YtbfilhaigbebpaaDoorArgs
import Derived.Test.YtbfilhaigbebpaaDoorVec2
set_option linter.unusedVariables false
set_option linter.unusedSimpArgs false
set_option maxRecDepth 100000
set_option maxHeartbeats 4000000
namespace Go.Tg
open Go Go.Proofs
theorem r3_Join (h0 : FH) (w : World) (hs : Sat h0 w) (a1 : Option Addr) (c1 : Nat) (xs : List UInt8) (a2 : Option Addr) (c2 : Nat) (ys : List UInt8) (hx : BS h0 a1 c1 xs) (hy : BS h0 a2 c2 ys) (hl : xs.length + ys.length ≤ 1000000000) :
    Spec Tryd.prog 27 #[.slice a1 xs.length c1, .slice a2 ys.length c2] w [] h0 (fun v h' L' => ∃ a' c', v = .slice a' (xs ++ ys).length c' ∧ h' = h0 ∧ L' = [own8 v 5 (xs ++ ys)]) := by
  have H := St.start hs
  unfold Spec
  refine calls_of Tryd.func27 rfl Tryd.ntmps27 (by simp) ?_
  repeat' (first | ((first | refine WL.p rfl ?_ | refine WL.u ?_); first | (refine opk 1 rfl ?_; first | (refine ost_app8 (xs := []) H rfl rfl rfl (by (exact ixQ)) ((hx.full H)) (by (try simp only [List.length_nil, List.length_append, List.length_cons, List.length_singleton]); omega) ?_; clear H; intro aa ca wk H; simp only [List.set_cons_zero, List.set_cons_succ, List.nil_append] at H) | (refine ost_app8 (xs := xs) H rfl rfl rfl (by (exact ixQ)) ((hy.full H)) (by (try simp only [List.length_nil, List.length_append, List.length_cons, List.length_singleton]); omega) ?_; clear H; intro aa ca wk H; simp only [List.set_cons_zero, List.set_cons_succ, List.nil_append] at H)) | refine pvQ ?_ | (refine opk 9 rfl ?_; (refine ost_build1 H rfl rfl rfl evQ lsQ rfl ?_; clear H; intro bk wk H))) | refine Wc.seq ?_ | refine then_n ?_ | refine WL.nil ?_ | refine Wc.region ?_ | refine Wc.block ?_ | refine then_r ?_ | refine then_e ?_ | refine inb_e rfl ?_ | refine inb_o rfl ?_ | refine inb_n ?_ | refine inb_r ?_ | refine Wc.skip ?_ | refine Wc.exit ?_ | refine Wc.ret ?_ | refine Wc.cond_true rfl ?_ | refine Wc.cond_false rfl ?_)
  exact fn_ret1 (v := .slice _ _ _) rfl rfl ⟨_, _, H, _, _, rfl, rfl, rfl⟩
theorem r3_Field (h0 : FH) (w : World) (hs : Sat h0 w) (a : Option Addr) (c : Nat) (xs : List UInt8) (hx : BS h0 a c xs) (hl : xs.length ≤ 900000000) :
    Spec Tryd.prog 57 #[.slice a xs.length c] w [] h0 (fun v h' L' => ∃ a' c', v = .slice a' (fieldB xs).length c' ∧ h' = h0 ∧ L' = [own8 v 5 (fieldB xs)]) := by
  have H := St.start hs
  have hp := putB_len xs.length
  unfold Spec
  refine calls_of Tryd.func57 rfl Tryd.ntmps57 (by simp) ?_
  repeat' (first | ((first | refine WL.p rfl ?_ | refine WL.u ?_); first | (refine opk 1 rfl ?_; first | (refine ost_C H rfl (r2_Put xs.length (by omega) _ _ (sat_full _)) rfl ?_; clear H; rintro vk wk hfk Lk ⟨a1, c1, rfl, _, rfl⟩ H; simp only [List.cons_append, List.nil_append] at H) | (refine ost_C H rfl (r3_Join _ _ (sat_full _) _ _ (putB xs.length) _ _ _ (H.own8rd (i := 0) rfl) (hx.full H) (by omega)) rfl ?_; clear H; rintro vk wk hfk Lk ⟨a2, c2, rfl, _, rfl⟩ H; simp only [List.cons_append, List.nil_append] at H)) | refine pvQ ?_) | refine Wc.seq ?_ | refine then_n ?_ | refine WL.nil ?_ | refine Wc.region ?_ | refine Wc.block ?_ | refine then_r ?_ | refine then_e ?_ | refine inb_e rfl ?_ | refine inb_o rfl ?_ | refine inb_n ?_ | refine inb_r ?_ | refine Wc.skip ?_ | refine Wc.exit ?_ | refine Wc.ret ?_ | refine Wc.cond_true rfl ?_ | refine Wc.cond_false rfl ?_)
  exact fn_ret1 (v := .slice _ _ _) rfl rfl ⟨_, _, H.pick 0 rfl, _, _, rfl, rfl, rfl⟩
abbrev rr (a : Option Addr) (n c : Nat) (e : Int) : Value := .agg [.slice a n c, .int .i64 e].toArray
theorem r3_Num (h0 : FH) (w : World) (hs : Sat h0 w) (a : Option Addr) (c : Nat) (xs : List UInt8) (e : Int) (hr : BS h0 a c xs) :
    Spec Tryd.prog 52 #[rr a xs.length c e] w [] h0 (fun v h' L' => ∃ a' c', v = .tuple #[rr a' (numE e xs).2.2.2.length c' (numE e xs).2.2.1, .int .u64 (numE e xs).1, .int .i64 (numE e xs).2.1] ∧ h' = h0 ∧ L' = [] ∧ BS h0 a' c' (numE e xs).2.2.2) := by
  have H := St.start hs
  have hl := getB_le xs
  have hcap := hr.le
  unfold Spec
  refine calls_of Tryd.func52 rfl Tryd.ntmps52 (by simp) ?_
  by_cases he : e = 0
  · subst he
    by_cases hg : (getB xs).2.2 = 0
    · have en : numE 0 xs = ((getB xs).1, 0, 0, xs.drop (getB xs).2.1) := by unfold numE; rw [if_neg (by simp), if_neg (by simpa using hg)]
      rw [en]
      have hg' : (((getB xs).2.2 : Nat) : Int) = 0 := by omega
      repeat' (first | ((first | refine WL.p rfl ?_ | refine WL.u ?_); first | (refine opk 1 rfl ?_; (refine ost_V H rfl (r2_Get _ _ _ _ _ H.sat hr) rfl ?_; clear H; intro wk H)) | refine pvQ ?_ | (refine opk 3 rfl ?_; (refine ost_cmp rfl rfl rfl rfl (fun hc => ?_) (fun hc => ?_) <;> (simp only [cmpP] at hc; try exact prIQ))) | (refine opk 4 rfl ?_; (refine ost_cmp rfl rfl rfl rfl (fun hc => ?_) (fun hc => ?_) <;> (simp only [cmpP] at hc; try exact prIQ))) | (refine opk 8 rfl ?_; first | (refine ost_store1 H rfl rfl vlQ gvQ ixQ (by first | decide | (simp; omega) | (simp; done) | omega) ?_; clear H; intro wk H; simp only [List.set_cons_zero, List.set_cons_succ, Nat.reduceAdd] at H) | (refine ost_storeW H rfl rfl rfl rfl lQ ixQ lQ okQ ?_; clear H; intro wk H; simp only [List.set_cons_zero, List.set_cons_succ, Nat.reduceAdd] at H)) | (refine opk 9 rfl ?_; first | (refine ost_boxq H rfl ?_; clear H; intro bk wk H) | (refine ost_allocA H rfl ?_; clear H; intro bk wk H))) | refine Wc.seq ?_ | refine then_n ?_ | refine WL.nil ?_ | refine Wc.region ?_ | refine Wc.block ?_ | refine then_r ?_ | refine then_e ?_ | refine inb_e rfl ?_ | refine inb_o rfl ?_ | refine inb_n ?_ | refine inb_r ?_ | refine Wc.skip ?_ | refine Wc.exit ?_ | refine Wc.ret ?_ | refine Wc.cond_true rfl ?_ | refine Wc.cond_false rfl ?_ | (refine Wc.drawn (id := 2) 5 (by kernel_rfl) ?_) | (refine rgs_nil ?_; intro vs wk hE; replace H := H.ext hE; clear hE) | (refine RGs.bq (fun _ => rfl) rfl (by intro vs w hE hP; have H := H.ext hE; first | exact dbQ | fail) (fun hc => ?_) (fun hc => ?_) <;> ((try simp only [cmpP, decide_eq_true_eq, decide_eq_false_iff_not, dcd_iff, dcd_no] at hc); try exact prDQ)) | refine RGs.pq (fun _ => rfl) rfl (by intro vs w hE hP; have H := H.ext hE; first | exact dvQ | fail) ?_)
      exact fn_ret3 (v2 := .int _ _) (v3 := .int _ _) rfl (rv_cellA rfl rfl H.bI lQ) rfl rfl ⟨_, _, H.pick0, _, _, by rw [List.length_drop]; rfl, rfl, rfl, hr.drop hl⟩
    · have en : numE 0 xs = (0, (((getB xs).2.2 : Nat) : Int), (((getB xs).2.2 : Nat) : Int), xs) := by unfold numE; rw [if_neg (by simp), if_pos (by simpa using hg)]
      rw [en]
      have hg' : ¬ (((getB xs).2.2 : Nat) : Int) = 0 := by omega
      repeat' (first | ((first | refine WL.p rfl ?_ | refine WL.u ?_); first | (refine opk 1 rfl ?_; (refine ost_V H rfl (r2_Get _ _ _ _ _ H.sat hr) rfl ?_; clear H; intro wk H)) | refine pvQ ?_ | (refine opk 3 rfl ?_; (refine ost_cmp rfl rfl rfl rfl (fun hc => ?_) (fun hc => ?_) <;> (simp only [cmpP] at hc; try exact prIQ))) | (refine opk 4 rfl ?_; (refine ost_cmp rfl rfl rfl rfl (fun hc => ?_) (fun hc => ?_) <;> (simp only [cmpP] at hc; try exact prIQ))) | (refine opk 8 rfl ?_; first | (refine ost_store1 H rfl rfl vlQ gvQ ixQ (by first | decide | (simp; omega) | (simp; done) | omega) ?_; clear H; intro wk H; simp only [List.set_cons_zero, List.set_cons_succ, Nat.reduceAdd] at H) | (refine ost_storeW H rfl rfl rfl rfl lQ ixQ lQ okQ ?_; clear H; intro wk H; simp only [List.set_cons_zero, List.set_cons_succ, Nat.reduceAdd] at H)) | (refine opk 9 rfl ?_; first | (refine ost_boxq H rfl ?_; clear H; intro bk wk H) | (refine ost_allocA H rfl ?_; clear H; intro bk wk H))) | refine Wc.seq ?_ | refine then_n ?_ | refine WL.nil ?_ | refine Wc.region ?_ | refine Wc.block ?_ | refine then_r ?_ | refine then_e ?_ | refine inb_e rfl ?_ | refine inb_o rfl ?_ | refine inb_n ?_ | refine inb_r ?_ | refine Wc.skip ?_ | refine Wc.exit ?_ | refine Wc.ret ?_ | refine Wc.cond_true rfl ?_ | refine Wc.cond_false rfl ?_ | (refine Wc.drawn (id := 2) 5 (by kernel_rfl) ?_) | (refine rgs_nil ?_; intro vs wk hE; replace H := H.ext hE; clear hE) | (refine RGs.bq (fun _ => rfl) rfl (by intro vs w hE hP; have H := H.ext hE; first | exact dbQ | fail) (fun hc => ?_) (fun hc => ?_) <;> ((try simp only [cmpP, decide_eq_true_eq, decide_eq_false_iff_not, dcd_iff, dcd_no] at hc); try exact prDQ)) | refine RGs.pq (fun _ => rfl) rfl (by intro vs w hE hP; have H := H.ext hE; first | exact dvQ | fail) ?_)
      exact fn_ret3 (v2 := .int _ _) (v3 := .int _ _) rfl (rv_cellA rfl rfl H.bI lQ) rfl rfl ⟨_, _, H.pick0, _, _, rfl, rfl, rfl, hr⟩
  · have en : numE e xs = (0, e, e, xs) := by unfold numE; rw [if_pos he]
    rw [en]
    repeat' (first | ((first | refine WL.p rfl ?_ | refine WL.u ?_); first | refine pvQ ?_ | (refine opk 3 rfl ?_; (refine ost_cmp rfl rfl rfl rfl (fun hc => ?_) (fun hc => ?_) <;> (simp only [cmpP] at hc; try exact prIQ))) | (refine opk 4 rfl ?_; (refine ost_cmp rfl rfl rfl rfl (fun hc => ?_) (fun hc => ?_) <;> (simp only [cmpP] at hc; try exact prIQ))) | (refine opk 8 rfl ?_; first | (refine ost_store1 H rfl rfl vlQ gvQ ixQ (by first | decide | (simp; omega) | (simp; done) | omega) ?_; clear H; intro wk H; simp only [List.set_cons_zero, List.set_cons_succ, Nat.reduceAdd] at H) | (refine ost_storeW H rfl rfl rfl rfl lQ ixQ lQ okQ ?_; clear H; intro wk H; simp only [List.set_cons_zero, List.set_cons_succ, Nat.reduceAdd] at H)) | (refine opk 9 rfl ?_; first | (refine ost_boxq H rfl ?_; clear H; intro bk wk H) | (refine ost_allocA H rfl ?_; clear H; intro bk wk H))) | refine Wc.seq ?_ | refine then_n ?_ | refine WL.nil ?_ | refine Wc.region ?_ | refine Wc.block ?_ | refine then_r ?_ | refine then_e ?_ | refine inb_e rfl ?_ | refine inb_o rfl ?_ | refine inb_n ?_ | refine inb_r ?_ | refine Wc.skip ?_ | refine Wc.exit ?_ | refine Wc.ret ?_ | refine Wc.cond_true rfl ?_ | refine Wc.cond_false rfl ?_ | (refine Wc.drawM (id := 2) 5 [(3, [.blk bk _], fun _ L' => L' = [.blk bk (.cells [.slice a xs.length c, .int .i64 e].toArray 146 (0, 0))])] [.blk _ _] [3] H (by kernel_rfl) rfl (by kernel_rfl) (by simp only [inpL, List.nil_append, List.cons_append, List.append_nil]; first | exact List.Perm.refl _ | exact List.Perm.swap _ _ _ | exact (List.Perm.swap _ _ _).trans ((List.Perm.swap _ _ _).cons _) | exact ((List.Perm.swap _ _ _).cons _) | exact ((List.Perm.swap _ _ _).cons _).trans (List.Perm.swap _ _ _)) ?_) | (refine rgm_nil ?_; intro vs wk outs HM hR; obtain ⟨_, e9_3, -⟩ := hR 3 _ rfl; (try dsimp only at e9_3); simp only [outsL, e9_3, List.cons_append, List.nil_append, List.append_nil] at HM; replace H := HM; clear HM hR) | (refine RGm.bq (fun _ => rfl) rfl (by intro vs w TT hP H; simp only [List.cons_append, List.nil_append] at H; first | exact dbQ | fail) (fun hc => ?_) (fun hc => ?_) <;> ((try simp only [cmpP, decide_eq_true_eq, decide_eq_false_iff_not, dcd_iff, dcd_no] at hc); try exact prDQ)) | refine RGm.pq (fun _ => rfl) rfl (by intro vs w TT hP H; simp only [List.cons_append, List.nil_append] at H; first | exact dvQ | fail) ?_ | refine RGm.mq (fun _ => rfl) rfl (by intro vs w TT hP H; simp only [List.cons_append, List.nil_append] at H; first | (refine ost_storeW H rfl rfl rfl rfl lQ (by (exact ixQ)) lQ (by first | assumption | exact cV_one _ | exact one_set (cV_one _) rfl | exact allOne_of rfl) ?_; intro wk H2; simp only [List.set_cons_zero, List.set_cons_succ, Nat.reduceAdd] at H2; exact ⟨[_], rfl, H2⟩) | fail) ?_ | refine RGm.mu rfl (by intro vs w TT hP H; simp only [List.cons_append, List.nil_append] at H; first | (refine ost_storeW H rfl rfl rfl rfl lQ (by (exact ixQ)) lQ (by first | assumption | exact cV_one _ | exact one_set (cV_one _) rfl | exact allOne_of rfl) ?_; intro wk H2; simp only [List.set_cons_zero, List.set_cons_succ, Nat.reduceAdd] at H2; exact ⟨[_], rfl, H2⟩) | fail) ?_)
    exact fn_ret3 (v2 := .int _ _) (v3 := .int _ _) rfl (rv_cellA rfl rfl H.bI lQ) rfl rfl ⟨_, _, H.pick0, _, _, rfl, rfl, rfl, hr⟩
end Go.Tg

set_option linter.unusedVariables false
set_option linter.unusedSimpArgs false
set_option maxRecDepth 100000
set_option maxHeartbeats 4000000
namespace Go.Tg
open Go Go.Proofs
def allE (made : Bool) (e : Int) (xs : List UInt8) : List UInt8 × Int := if made = true ∧ e = 0 then (xs, 0) else ([], if made then e else 1)
theorem pack_AllO (b : Nat) (made : Bool) (e : Int) (v : Value) (xs : List UInt8) (g : FH) (w : World) (HO : St w (wr b made e v xs).fp g g [wr b made e v xs] w) (hx : xs.length ≤ 65536) :
    Spec Tryd.prog 34 #[pt b] w (wr b made e v xs).fp g (fun v' h' L' => ∃ a' c', v' = .tuple #[.slice a' (allE made e xs).1.length c', .int .i64 (allE made e xs).2] ∧ h' = g ∧ L' = [own8 (.slice a' (allE made e xs).1.length c') 5 (allE made e xs).1, wr b made e v xs]) := by
  have H := HO.split
  obtain ⟨av, cv, rfl, -⟩ := H.own8BS (i := 1) rfl
  unfold Spec
  refine calls_of Tryd.func34 rfl Tryd.ntmps34 (by simp) ?_
  cases made
  · repeat' (first | ((first | refine WL.p rfl ?_ | refine WL.u ?_ | refine WL.g rfl rfl ?_ | refine WL.gu rfl ?_); first | refine pvQ ?_ | (refine opk 3 rfl ?_; first | (refine ost_cmp rfl rfl rfl rfl (fun hc => ?_) (fun hc => ?_) <;> (simp only [cmpP] at hc; try exact prIQ)) | (refine ost_ptEq rfl rfl rfl (fun hc => ?_) (fun hc => ?_) <;> try (simp at hc; done)) | (refine ost_ptNe rfl rfl rfl (fun hc => ?_) (fun hc => ?_) <;> try (simp at hc; done))) | (refine opk 4 rfl ?_; (refine ost_cmp rfl rfl rfl rfl (fun hc => ?_) (fun hc => ?_) <;> (simp only [cmpP] at hc; try exact prIQ)))) | refine Wc.seq ?_ | refine then_n ?_ | refine WL.nil ?_ | refine Wc.region ?_ | refine Wc.block ?_ | refine then_r ?_ | refine then_e ?_ | refine inb_e rfl ?_ | refine inb_o rfl ?_ | refine inb_n ?_ | refine inb_r ?_ | refine Wc.skip ?_ | refine Wc.exit ?_ | refine Wc.ret ?_ | refine Wc.cond_true rfl ?_ | refine Wc.cond_false rfl ?_ | (refine Wc.drawn (id := 4) 6 (by kernel_rfl) ?_) | refine WL.skp rfl rfl ?_ | refine WL.sku rfl ?_ | (refine rgs_nil ?_; intro vs wk hE; replace H := H.ext hE; clear hE) | refine RGs.skp (fun _ => rfl) rfl ?_ | (refine RGs.bq (fun _ => rfl) rfl (by intro vs w hE hP; have H := H.ext hE; first | exact dbQ | fail) (fun hc => ?_) (fun hc => ?_) <;> ((try simp only [cmpP, decide_eq_true_eq, decide_eq_false_iff_not, dcd_iff, dcd_no] at hc); try exact prDQ)) | refine RGs.pq (fun _ => rfl) rfl (by intro vs w hE hP; have H := H.ext hE; first | exact dvQ | fail) ?_)
    exact fn_ret2 (v1 := .slice _ _ _) (v2 := .int _ _) rfl rfl rfl ⟨_, _, HO.nil8 5, _, _, rfl, rfl, rfl⟩
  · by_cases he : e = 0
    · subst he
      have e1 : allE true 0 xs = (xs, 0) := by simp [allE]
      rw [e1]
      repeat' (first | ((first | refine WL.p rfl ?_ | refine WL.u ?_ | refine WL.g rfl rfl ?_ | refine WL.gu rfl ?_); first | (refine opk 1 rfl ?_; (refine ost_C H rfl (clone8 _ _ _ _ _ (sat_full _) (H.own8rd (i := 1) rfl) (by omega)) rfl ?_; clear H; rintro vk wk hfk Lk ⟨a1, c1, rfl, _, rfl⟩ H; simp only [List.cons_append, List.nil_append] at H)) | refine pvQ ?_ | (refine opk 3 rfl ?_; first | (refine ost_cmp rfl rfl rfl rfl (fun hc => ?_) (fun hc => ?_) <;> (simp only [cmpP] at hc; try exact prIQ)) | (refine ost_ptEq rfl rfl rfl (fun hc => ?_) (fun hc => ?_) <;> try (simp at hc; done)) | (refine ost_ptNe rfl rfl rfl (fun hc => ?_) (fun hc => ?_) <;> try (simp at hc; done))) | (refine opk 4 rfl ?_; (refine ost_cmp rfl rfl rfl rfl (fun hc => ?_) (fun hc => ?_) <;> (simp only [cmpP] at hc; try exact prIQ)))) | refine Wc.seq ?_ | refine then_n ?_ | refine WL.nil ?_ | refine Wc.region ?_ | refine Wc.block ?_ | refine then_r ?_ | refine then_e ?_ | refine inb_e rfl ?_ | refine inb_o rfl ?_ | refine inb_n ?_ | refine inb_r ?_ | refine Wc.skip ?_ | refine Wc.exit ?_ | refine Wc.ret ?_ | refine Wc.cond_true rfl ?_ | refine Wc.cond_false rfl ?_ | (refine Wc.drawn (id := 4) 6 (by kernel_rfl) ?_) | refine WL.skp rfl rfl ?_ | refine WL.sku rfl ?_ | (refine rgs_nil ?_; intro vs wk hE; replace H := H.ext hE; clear hE) | refine RGs.skp (fun _ => rfl) rfl ?_ | (refine RGs.bq (fun _ => rfl) rfl (by intro vs w hE hP; have H := H.ext hE; first | exact dbQ | fail) (fun hc => ?_) (fun hc => ?_) <;> ((try simp only [cmpP, decide_eq_true_eq, decide_eq_false_iff_not, dcd_iff, dcd_no] at hc); try exact prDQ)) | refine RGs.pq (fun _ => rfl) rfl (by intro vs w hE hP; have H := H.ext hE; first | exact dvQ | fail) ?_)
      exact fn_ret2 (v1 := .slice _ _ _) (v2 := .int _ _) rfl rfl rfl ⟨_, _, ((H.front 2 rfl).front 2 rfl).join.front 1 rfl, _, _, rfl, rfl, rfl⟩
    · have e1 : allE true e xs = ([], e) := by simp [allE, he]
      rw [e1]
      repeat' (first | ((first | refine WL.p rfl ?_ | refine WL.u ?_ | refine WL.g rfl rfl ?_ | refine WL.gu rfl ?_); first | refine pvQ ?_ | (refine opk 3 rfl ?_; first | (refine ost_cmp rfl rfl rfl rfl (fun hc => ?_) (fun hc => ?_) <;> (simp only [cmpP] at hc; try exact prIQ)) | (refine ost_ptEq rfl rfl rfl (fun hc => ?_) (fun hc => ?_) <;> try (simp at hc; done)) | (refine ost_ptNe rfl rfl rfl (fun hc => ?_) (fun hc => ?_) <;> try (simp at hc; done))) | (refine opk 4 rfl ?_; (refine ost_cmp rfl rfl rfl rfl (fun hc => ?_) (fun hc => ?_) <;> (simp only [cmpP] at hc; try exact prIQ)))) | refine Wc.seq ?_ | refine then_n ?_ | refine WL.nil ?_ | refine Wc.region ?_ | refine Wc.block ?_ | refine then_r ?_ | refine then_e ?_ | refine inb_e rfl ?_ | refine inb_o rfl ?_ | refine inb_n ?_ | refine inb_r ?_ | refine Wc.skip ?_ | refine Wc.exit ?_ | refine Wc.ret ?_ | refine Wc.cond_true rfl ?_ | refine Wc.cond_false rfl ?_ | (refine Wc.drawn (id := 4) 6 (by kernel_rfl) ?_) | refine WL.skp rfl rfl ?_ | refine WL.sku rfl ?_ | (refine rgs_nil ?_; intro vs wk hE; replace H := H.ext hE; clear hE) | refine RGs.skp (fun _ => rfl) rfl ?_ | (refine RGs.bq (fun _ => rfl) rfl (by intro vs w hE hP; have H := H.ext hE; first | exact dbQ | fail) (fun hc => ?_) (fun hc => ?_) <;> ((try simp only [cmpP, decide_eq_true_eq, decide_eq_false_iff_not, dcd_iff, dcd_no] at hc); try exact prDQ)) | refine RGs.pq (fun _ => rfl) rfl (by intro vs w hE hP; have H := H.ext hE; first | exact dvQ | fail) ?_)
      exact fn_ret2 (v1 := .slice _ _ _) (v2 := .int _ _) rfl rfl rfl ⟨_, _, H.join.nil8 5, _, _, rfl, rfl, rfl⟩
end Go.Tg

set_option linter.unusedVariables false
set_option linter.unusedSimpArgs false
set_option maxRecDepth 100000
set_option maxHeartbeats 4000000
namespace Go.Tg
open Go Go.Proofs
structure ActT where
  k : Nat
  n : Nat
  bs : List UInt8
  hk : k < 256
  hn : n < 18446744073709551616
structure ActR (h : FH) (row : List Value) (x : ActT) : Prop where
  row : ∃ a c, row = [.int .u8 x.k, .int .u64 x.n, .slice a x.bs.length c] ∧ BS h a c x.bs
structure ActsR (h : FH) (a : Option Addr) (c : Nat) (acts : List ActT) : Prop where
  row : ∃ rows, Sl h 3 a c rows ∧ rows.length = acts.length ∧ ∀ i (h1 : i < rows.length) (h2 : i < acts.length), ActR h rows[i] acts[i]
theorem ActsR.get {h : FH} {a : Option Addr} {c : Nat} {acts : List ActT} (r : ActsR h a c acts) {i : Nat} (hi : i < acts.length) :
    ∃ b off l T fr a' c', a = some ⟨b, off, none⟩ ∧ h b = some (.cells (List.toArray l) T fr) ∧ l[off + (i : Int).toNat * 3 + 0]? = some (.int .u8 acts[i].k) ∧ l[off + (i : Int).toNat * 3 + 1]? = some (.int .u64 acts[i].n) ∧ l[off + (i : Int).toNat * 3 + 2]? = some (.slice a' acts[i].bs.length c') ∧
      (l.drop (off + (i : Int).toNat * 3)).take 3 = [.int .u8 acts[i].k, .int .u64 acts[i].n, .slice a' acts[i].bs.length c'] ∧ BS h a' c' acts[i].bs := by
  obtain ⟨rows, hS, hl, hR⟩ := r.row
  have hi' : i < rows.length := by omega
  obtain ⟨b, off, l, T, fr, h1, h2, h3⟩ := hS.get (by decide) hi'
  obtain ⟨a', c', h4, h5⟩ := (hR i hi' hi).row
  have h6 := h3 i hi'
  rw [h4] at h6
  have e : (i : Int).toNat = i := by omega
  rw [e]
  exact ⟨b, off, l, T, fr, a', c', h1, h2, row_cell h6 (q := 0) (by simp), row_cell h6 (q := 1) (by simp), row_cell h6 (q := 2) (by simp), h6, h5⟩
section
variable {H : Type} {enc : TypeId × Value → H} {W : World} {sp : Nat → Bool}
end
theorem val_of1 {v : Value} {a : Option Addr} {n c : Nat} (e : v.cells.toList = [.slice a n c]) (h : ∃ a n c, v = .slice a n c) : v = .slice a n c := by
  obtain ⟨a', n', c', rfl⟩ := h
  simp [Value.cells] at e
  obtain ⟨rfl, rfl, rfl⟩ := e; rfl
theorem pack_All0 (b : Nat) (e : Int) (v : Value) (xs : List UInt8) (g : FH) (w : World) (HO : St w (wr b true e v xs).fp g g [wr b true e v xs] w) (hx : xs.length ≤ 65536) (he : e = 0) :
    Spec Tryd.prog 34 #[pt b] w (wr b true e v xs).fp g (fun v' h' L' => ∃ a' c', v' = .tuple #[.slice a' xs.length c', .int .i64 0] ∧ h' = g ∧ L' = [own8 (.slice a' xs.length c') 5 xs, wr b true e v xs]) := by
  have := pack_AllO b true e v xs g w HO hx
  rw [show allE true e xs = (xs, 0) by simp [allE, he]] at this; exact this
end Go.Tg

