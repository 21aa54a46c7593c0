/- Contracts of Go functions that the laws reach: what each call answers and leaves in memory, for all arguments within the bounds that each theorem names. -/
import Derived.Test.YtajfhoeejeadkaaDoorInst
import Derived.Test.YtajfhoeejeadkaaDoorAuto
import Derived.Test.YtajfhoeejeadkaaDoorS4
import Derived.Test.YtajfhoeejeadkaaDoorO5
import Derived.Test.YtajfhoeejeadkaaDoorW4
import Derived.Test.YtajfhoeejeadkaaDoorChecked
import Derived.Test.YtajfhoeejeadkaaDoorRows
import Derived.Test.YtajfhoeejeadkaaDoorLift
import Derived.Test.YtajfhoeejeadkaaDoorQ5
import Derived.Test.YtajfhoeejeadkaaDoorQE
import Derived.Test.YtajfhoeejeadkaaDoorO1
set_option linter.unusedVariables false
set_option linter.unusedSimpArgs false
set_option maxRecDepth 100000
set_option maxHeartbeats 4000000
namespace Go.Tg
open Go Go.Proofs
theorem typed_cOp (o : OpT) : Typed [.i .u8, .i .u32, .i .u8, .i .u16, .i .u16, .i .u16, .i .u32, .i .u32, .i .u32, .i .u32, .i .u32, .i .u32, .i .u32, .i .u32, .i .u32, .i .u32, .i .u32, .i .u32, .i .u32, .i .u32, .i .u32, .i .u32, .i .u32] (cOp o) := by
  have h := typed_cV o.ctx
  unfold Typed at h ⊢
  unfold cOp
  simp only [List.map_cons, h]
  rfl
def allR (l : List OpT) : Prop := ∀ o, o ∈ l → rightO o 16 = true
def atsR : Nat → List OpT → List Nat
  | _, [] => []
  | k, o :: l => k :: atsR (k + (recB o).length) l
def recsB (l : List OpT) : List UInt8 := (l.map recB).flatten
theorem recsB_cons (o : OpT) (l : List OpT) : recsB (o :: l) = recB o ++ recsB l := by simp [recsB]
theorem recB_len (o : OpT) : (recB o).length ≤ 312 := by have := wrapB_len (recF o); have := recF_len o; unfold recB; omega
theorem headB_len (id : UInt32) : (headB id).length ≤ 37 := by have := wrapB_len (numF 1 id.toNat); have := numF_len 1 id.toNat; unfold headB; omega
theorem footB_len (n : Nat) : (footB n).length ≤ 37 := by have := wrapB_len (numF 3 n); have := numF_len 3 n; unfold footB; omega
theorem frames_recs (l : List OpT) (r : List UInt8) : frames (recsB l ++ r) = l.map recF ++ frames r := by
  induction l with
  | nil => rfl
  | cons o l ih =>
    have := recF_len o
    rw [recsB_cons, List.append_assoc]
    unfold recB
    rw [frames_wrap (by omega), ih]; rfl
theorem segR_recs (l : List OpT) (hl : allR l) (r : List (List UInt8)) (n at_ : Nat) : segR (l.map recF ++ r) n at_ = (l ++ (segR r (n + l.length) (at_ + (recsB l).length)).1, atsR at_ l ++ (segR r (n + l.length) (at_ + (recsB l).length)).2.1, (segR r (n + l.length) (at_ + (recsB l).length)).2.2) := by
  induction l generalizing n at_ with
  | nil => simp [recsB, atsR]
  | cons o l ih =>
    rw [List.map_cons, List.cons_append, segR_op (isOp_rec (hl o (by simp)))]
    have h9 := ih (fun x hx => hl x (by simp [hx])) (n + 1) (at_ + (wrapB (recF o)).length)
    rw [h9]
    have e1 : n + 1 + l.length = n + (o :: l).length := by rw [List.length_cons]; omega
    have e2 : at_ + (wrapB (recF o)).length + (recsB l).length = at_ + (recsB (o :: l)).length := by rw [recsB_cons, List.length_append]; unfold recB; omega
    rw [e1, e2]
    rfl
theorem scan_seg (id : UInt32) (l : List OpT) (hl : allR l) (r : List UInt8) : scanS (headB id ++ (recsB l ++ r)) = (⟨id, l ++ (segR (frames r) l.length ((headB id).length + (recsB l).length)).1, atsR (headB id).length l ++ (segR (frames r) l.length ((headB id).length + (recsB l).length)).2.1, (segR (frames r) l.length ((headB id).length + (recsB l).length)).2.2.1, (segR (frames r) l.length ((headB id).length + (recsB l).length)).2.2.2⟩, 0) := by
  have h1 := numF_len 1 id.toNat
  have h2 : frames (headB id ++ (recsB l ++ r)) = numF 1 id.toNat :: (l.map recF ++ frames r) := by
    unfold headB
    rw [frames_wrap (by omega), frames_recs]
  rw [scanS_ok h2, segR_recs l hl]
  simp only [Nat.zero_add]
  rfl
theorem foot_op (n : Nat) (hn : n < 18446744073709551616) : isOp (numF 3 n) = none := isOp_none.2 fun u _ => numF_rec (by decide) (by decide)
theorem frames_foot (n : Nat) (r : List UInt8) : frames (footB n ++ r) = numF 3 n :: frames r := by
  have := numF_len 3 n
  unfold footB
  exact frames_wrap (by omega) r
theorem scan_open (id : UInt32) (l : List OpT) (hl : allR l) {r : List UInt8} (hr : frames r = []) : scanS (headB id ++ (recsB l ++ r)) = (⟨id, l, atsR (headB id).length l, false, (headB id).length + (recsB l).length⟩, 0) := by
  rw [scan_seg id l hl r, hr]
  simp [segR]
theorem scan_done (id : UInt32) (l : List OpT) (hl : allR l) (hn : l.length < 18446744073709551616) : scanS (headB id ++ (recsB l ++ footB l.length)) = (⟨id, l, atsR (headB id).length l, true, (headB id).length + (recsB l).length + (footB l.length).length⟩, 0) := by
  have hf := frames_foot l.length []
  rw [List.append_nil] at hf
  rw [scan_seg id l hl, hf, segR_foot (foot_op _ hn) rfl]
  simp [footB]
theorem scan_rec (o : OpT) : scanS (recB o) = (zeroI, 5) := by
  have h1 := recF_len o
  have h := frames_wrap (xs := recF o) (by omega) []
  rw [List.append_nil] at h
  exact scanS_no (b := recB o) h fun id => numF_rec (by decide) (by decide)
section
variable {P : Program} {o : Oper} {s : Env} {w : World} {K : Value → World → Prop}
theorem ost_lenB {x : Operand} {t e : TypeId} {sz bytes : Nat} {z : Value} {xs : List UInt8} [Ty P t (.slice e) sz bytes z] (ho : o.op = .call { callee := .builtin .len, args := #[x], argTypes := #[t] }) (hr : BSv (full w) (ev s x) xs) (hk : K (.int .i64 xs.length) w) : Ost P o s w K := by
  obtain ⟨a, c, e, -⟩ := hr
  exact ost_len_sl ho e hk
end
def oS : OpT := ⟨⟨0, 1⟩, 1, 3, 4, 2, 0, fun _ => 0⟩
theorem oS_right : rightO oS 16 = true := by kernel_rfl
theorem oS_all : allR [oS] := fun o h => by rw [List.mem_singleton.1 h]; exact oS_right
theorem recs1 : recsB [oS] = recB oS := by simp [recsB]
theorem seg_ScanK {x : InfT} {e : Int} (b : List UInt8) (hx : scanS b = (x, e)) (n : Nat) (hn : n = b.length) (h0 : FH) (a : Option Addr) (c : Nat) (w : World) (hs : Sat h0 w) (hT : Half h0) (hr : BS h0 a c b) (hb : b.length ≤ 1000000) :
    Spec Tryd.prog 40 #[.slice a n c] w [] h0 (fun v h' L' => ∃ ao co at_ ct, v = .tuple #[.agg (ifL x.id x.ops.length x.ats.length x.sld x.used ao co at_ ct).toArray, .int .i64 e] ∧ L' = [] ∧ Sl h' 23 ao co (x.ops.map cOp) ∧ Sl h' 1 at_ ct (x.ats.map cI)) := by
  subst hn
  have := seg_Scan h0 a c b w hs hT hr hb
  rw [hx] at this
  exact this.mono fun v h' L' ⟨A, h1, h2, h3⟩ => ⟨A.ao, A.co, A.at_, A.ct, h1, h2, h3.o, h3.t⟩
theorem outC_r {o : OpT} (h : rightO o 16 = true) : outC o = (recB o, 0) := by unfold outC; rw [if_pos h]
theorem outC_n {o : OpT} (h : rightO o 16 = false) : outC o = ([], 2) := by unfold outC; rw [h]; rfl
theorem outK_r {n : Nat} (h : n ≤ 4096) : outK (n : Int) = (footB n, 0) := by unfold outK; rw [if_pos (by omega)]; rfl
theorem alive12 (h0 : FH) (w : World) (hs : Sat h0 w) (hT : Half h0) : SpecV Tryd.prog 33 #[] w (.bool true) := by
  have H := St.start hs
  have lS := cOp_len oS
  have tS := typed_cOp oS
  have cR := seg_Record oS h0
  have cF := seg_Foot 1 (by decide) (by decide) 
  have cH := seg_Head 5
  rw [outC_r oS_right] at cR
  rw [show outK 1 = (footB 1, 0) from outK_r (n := 1) (by decide)] at cF
  have r1 := recB_len oS
  have r2 := headB_len 5
  have r3 := footB_len 1
  have hp := wrapB_pos (recF oS)
  have s1 := scan_done 5 [oS] oS_all (by decide)
  have hcut : ((headB 5 ++ recB oS).take ((headB 5 ++ recB oS).length - 1)) = headB 5 ++ (recsB [] ++ (recB oS).take ((recB oS).length - 1)) := by
    have : 4 ≤ (recB oS).length := hp
    rw [List.take_append, List.take_of_length_le (by rw [List.length_append]; omega)]
    have e : (headB 5 ++ recB oS).length - 1 - (headB 5).length = (recB oS).length - 1 := by rw [List.length_append]; omega
    rw [e]; rfl
  have s2 := scan_open 5 [] (fun _ h => (List.not_mem_nil h).elim) (r := (recB oS).take ((recB oS).length - 1)) (frames_cut (xs := recF oS) (by have := recF_len oS; omega) (by have : 4 ≤ (wrapB (recF oS)).length := hp; show (wrapB (recF oS)).length - 1 < _; omega))
  rw [← hcut] at s2
  have s3 := scan_rec oS
  rw [show recsB [oS] = recB oS from recs1] at s1
  have hp : 4 ≤ (recB oS).length := hp
  rw [← List.append_assoc] at s1
  clear hcut
  unfold SpecV
  refine calls_of Tryd.func33 rfl Tryd.ntmps33 (by simp) ?_
  repeat' (first | ((first | refine WL.p rfl ?_ | refine WL.u ?_ | refine WL.g rfl rfl ?_ | refine WL.gu rfl ?_); first | (refine opk 1 rfl ?_; (refine ost_Sk H rfl (cR _ H.sat hT) rfl ?_; clear H; rintro vk wk hfk Lk ⟨a1, c1, rfl, rfl⟩ hle H; simp only [List.cons_append, List.nil_append] at H)) | (refine opk 9 rfl ?_; (refine ost_buildS (l := cOp oS) rfl (evP_cons (rfl : _ = Value.agg _) (evP_cons (rfl : _ = Value.int .u8 _) (evP_cons (rfl : _ = Value.int .u16 _) (evP_cons (rfl : _ = Value.int .u16 _) (evP_cons (rfl : _ = Value.int .u16 _) evP_nil))))) (by kernel_rfl) (by kernel_rfl) ?_)) | refine pvQ ?_ | (refine opk 3 rfl ?_; first | (refine ost_eqA rfl (by decide) rfl rfl tyQ tyQ (fun hc => ?_) (fun hc => ?_) <;> try exact prEQ) | (refine ost_neA rfl (by decide) rfl rfl tyQ tyQ (fun hc => ?_) (fun hc => ?_) <;> try exact prEQ) | (refine ost_cmp rfl rfl rfl rfl (fun hc => ?_) (fun hc => ?_) <;> (simp only [cmpP] at hc; try exact prIQ))) | (refine opk 4 rfl ?_; (refine ost_cmp rfl rfl rfl rfl (fun hc => ?_) (fun hc => ?_) <;> (simp only [cmpP] at hc; try exact prIQ))) | (refine opk 8 rfl ?_; (refine ost_storeW H rfl rfl rfl rfl lQ ixQ lQ okQ ?_; clear H; intro wk H; simp only [List.set_cons_zero, List.set_cons_succ, Nat.reduceAdd] at H)) | (refine opk 9 rfl ?_; (refine ost_allocA H rfl ?_; clear H; intro bk wk H))) | refine Wc.seq ?_ | refine then_n ?_ | refine WL.nil ?_ | refine Wc.region ?_ | refine Wc.block ?_ | refine then_r ?_ | refine then_e ?_ | refine inb_e rfl ?_ | refine inb_o rfl ?_ | refine inb_n ?_ | refine inb_r ?_ | refine Wc.skip ?_ | refine Wc.exit ?_ | refine Wc.ret ?_ | refine Wc.cond_true rfl ?_ | refine Wc.cond_false rfl ?_ | (refine Wc.drawn (id := 10) 40 (by kernel_rfl) ?_) | refine WL.skp rfl rfl ?_ | refine WL.sku rfl ?_ | (refine rgs_nil ?_; intro vs wk hE; replace H := H.ext hE; clear hE) | refine RGs.skp (fun _ => rfl) rfl ?_ | (refine RGs.bq (fun _ => rfl) rfl (by intro vs w hE hP; have H := H.ext hE; first | exact dbQ | fail) (fun hc => ?_) (fun hc => ?_) <;> ((try simp only [cmpP, decide_eq_true_eq, decide_eq_false_iff_not, dcd_iff, dcd_no] at hc); try exact prDQ)) | refine RGs.pq (fun _ => rfl) rfl (by intro vs w hE hP; have H := H.ext hE; first | exact dvQ | fail) ?_)
  obtain ⟨a6, c6, h6, e6, hle6, hr6, H⟩ := H.freeze8
  cases e6
  have hT6 := (hT.mono hle).mono hle6
  clear hle
  repeat' (first | ((first | refine WL.p rfl ?_ | refine WL.u ?_ | refine WL.g rfl rfl ?_ | refine WL.gu rfl ?_); first | (refine opk 1 rfl ?_; (refine ost_Sk H rfl (cF _ _ H.sat hT6) rfl ?_; clear H; rintro vk wk hfk Lk ⟨a2, c2, rfl, rfl⟩ hle H; simp only [List.cons_append, List.nil_append] at H)) | refine pvQ ?_ | (refine opk 3 rfl ?_; first | (refine ost_eqA rfl (by decide) rfl rfl tyQ tyQ (fun hc => ?_) (fun hc => ?_) <;> try exact prEQ) | (refine ost_neA rfl (by decide) rfl rfl tyQ tyQ (fun hc => ?_) (fun hc => ?_) <;> try exact prEQ) | (refine ost_cmp rfl rfl rfl rfl (fun hc => ?_) (fun hc => ?_) <;> (simp only [cmpP] at hc; try exact prIQ))) | (refine opk 4 rfl ?_; (refine ost_cmp rfl rfl rfl rfl (fun hc => ?_) (fun hc => ?_) <;> (simp only [cmpP] at hc; try exact prIQ))) | (refine opk 8 rfl ?_; (refine ost_storeW H rfl rfl rfl rfl lQ ixQ lQ okQ ?_; clear H; intro wk H; simp only [List.set_cons_zero, List.set_cons_succ, Nat.reduceAdd] at H)) | (refine opk 9 rfl ?_; (refine ost_allocA H rfl ?_; clear H; intro bk wk H))) | refine Wc.seq ?_ | refine then_n ?_ | refine WL.nil ?_ | refine Wc.region ?_ | refine Wc.block ?_ | refine then_r ?_ | refine then_e ?_ | refine inb_e rfl ?_ | refine inb_o rfl ?_ | refine inb_n ?_ | refine inb_r ?_ | refine Wc.skip ?_ | refine Wc.exit ?_ | refine Wc.ret ?_ | refine Wc.cond_true rfl ?_ | refine Wc.cond_false rfl ?_ | (refine Wc.drawn (id := 10) 40 (by kernel_rfl) ?_) | refine WL.skp rfl rfl ?_ | refine WL.sku rfl ?_ | (refine rgs_nil ?_; intro vs wk hE; replace H := H.ext hE; clear hE) | refine RGs.skp (fun _ => rfl) rfl ?_ | (refine RGs.bq (fun _ => rfl) rfl (by intro vs w hE hP; have H := H.ext hE; first | exact dbQ | fail) (fun hc => ?_) (fun hc => ?_) <;> ((try simp only [cmpP, decide_eq_true_eq, decide_eq_false_iff_not, dcd_iff, dcd_no] at hc); try exact prDQ)) | refine RGs.pq (fun _ => rfl) rfl (by intro vs w hE hP; have H := H.ext hE; first | exact dvQ | fail) ?_)
  obtain ⟨a7, c7, h7, e7, hle7, hr7, H⟩ := H.freeze8
  cases e7
  have hT7 := (hT6.mono hle).mono hle7
  have hr6 := (hr6.mono hle).mono hle7
  clear hle
  repeat' (first | ((first | refine WL.p rfl ?_ | refine WL.u ?_ | refine WL.g rfl rfl ?_ | refine WL.gu rfl ?_); first | (refine opk 1 rfl ?_; first | (refine ost_Sk H rfl (cH _ _ H.sat hT7) rfl ?_; clear H; rintro vk wk hfk Lk ⟨a3, c3, rfl, rfl⟩ hle H; simp only [List.cons_append, List.nil_append] at H) | (refine ost_app8 (xs := headB 5) H rfl rfl rfl (by (exact ixQ)) ((hr6.mono hle).full H) (by (try simp only [List.length_nil, List.length_append, List.length_cons, List.length_singleton]); omega) ?_; clear H; intro aa ca wk H; simp only [List.set_cons_zero, List.set_cons_succ, List.nil_append] at H)) | refine pvQ ?_ | (refine opk 3 rfl ?_; first | (refine ost_eqA rfl (by decide) rfl rfl tyQ tyQ (fun hc => ?_) (fun hc => ?_) <;> try exact prEQ) | (refine ost_neA rfl (by decide) rfl rfl tyQ tyQ (fun hc => ?_) (fun hc => ?_) <;> try exact prEQ) | (refine ost_cmp rfl rfl rfl rfl (fun hc => ?_) (fun hc => ?_) <;> (simp only [cmpP] at hc; try exact prIQ))) | (refine opk 4 rfl ?_; (refine ost_cmp rfl rfl rfl rfl (fun hc => ?_) (fun hc => ?_) <;> (simp only [cmpP] at hc; try exact prIQ))) | (refine opk 8 rfl ?_; (refine ost_storeW H rfl rfl rfl rfl lQ ixQ lQ okQ ?_; clear H; intro wk H; simp only [List.set_cons_zero, List.set_cons_succ, Nat.reduceAdd] at H)) | (refine opk 9 rfl ?_; (refine ost_allocA H rfl ?_; clear H; intro bk wk H))) | refine Wc.seq ?_ | refine then_n ?_ | refine WL.nil ?_ | refine Wc.region ?_ | refine Wc.block ?_ | refine then_r ?_ | refine then_e ?_ | refine inb_e rfl ?_ | refine inb_o rfl ?_ | refine inb_n ?_ | refine inb_r ?_ | refine Wc.skip ?_ | refine Wc.exit ?_ | refine Wc.ret ?_ | refine Wc.cond_true rfl ?_ | refine Wc.cond_false rfl ?_ | (refine Wc.drawn (id := 10) 40 (by kernel_rfl) ?_) | refine WL.skp rfl rfl ?_ | refine WL.sku rfl ?_ | (refine rgs_nil ?_; intro vs wk hE; replace H := H.ext hE; clear hE) | refine RGs.skp (fun _ => rfl) rfl ?_ | (refine RGs.bq (fun _ => rfl) rfl (by intro vs w hE hP; have H := H.ext hE; first | exact dbQ | fail) (fun hc => ?_) (fun hc => ?_) <;> ((try simp only [cmpP, decide_eq_true_eq, decide_eq_false_iff_not, dcd_iff, dcd_no] at hc); try exact prDQ)) | refine RGs.pq (fun _ => rfl) rfl (by intro vs w hE hP; have H := H.ext hE; first | exact dvQ | fail) ?_)
  obtain ⟨a8, c8, h8, e8, hle8, hb8, H⟩ := H.freeze8
  cases e8
  have hT8 := (hT7.mono hle).mono hle8
  have hr8 := (hr6.mono hle).mono hle8
  have hf8 := (hr7.mono hle).mono hle8
  clear hle
  have lX : (headB 5 ++ recB oS).length ≤ 349 := by rw [List.length_append]; omega
  have lX2 : 4 ≤ (headB 5 ++ recB oS).length := by rw [List.length_append]; omega
  have hl : (headB 5).length + (recB oS).length = (headB 5 ++ recB oS).length := (List.length_append ..).symm
  have S1 : ∀ (h : FH) (a : Option Addr) (c : Nat) (w : World), Sat h w → Half h → BS h a c (headB 5 ++ recB oS ++ footB 1) → Spec Tryd.prog 40 #[.slice a (headB 5 ++ recB oS ++ footB 1).length c] w [] h (fun v h' L' => ∃ ao co at_ ct, v = .tuple #[.agg [Value.int .u32 5, .slice ao 1 co, .slice at_ 1 ct, .bool true, .int .i64 (((headB 5).length + (recB oS).length + (footB 1).length : Nat) : Int)].toArray, .int .i64 0] ∧ L' = [] ∧ Sl h' 23 ao co [cOp oS] ∧ Sl h' 1 at_ ct [cI (headB 5).length]) := fun h a c w hs hT hr => seg_ScanK (headB 5 ++ recB oS ++ footB 1) s1 _ rfl h a c w hs hT hr (by rw [List.length_append]; omega)
  have S2 : ∀ (h : FH) (a : Option Addr) (c : Nat) (w : World), Sat h w → Half h → BS h a c ((headB 5 ++ recB oS).take ((headB 5 ++ recB oS).length - 1)) → Spec Tryd.prog 40 #[.slice a (((headB 5 ++ recB oS).length : Int) - 1).toNat c] w [] h (fun v h' L' => ∃ ao co at_ ct, v = .tuple #[.agg [Value.int .u32 5, .slice ao 0 co, .slice at_ 0 ct, .bool false, .int .i64 (((headB 5).length + (recsB []).length : Nat) : Int)].toArray, .int .i64 0] ∧ L' = []) := fun h a c w hs hT hr =>
    (seg_ScanK ((headB 5 ++ recB oS).take ((headB 5 ++ recB oS).length - 1)) s2 (((headB 5 ++ recB oS).length : Int) - 1).toNat (by rw [List.length_take]; omega) h a c w hs hT hr (by rw [List.length_take]; omega)).mono fun v h' L' ⟨ao, co, at_, ct, h1, h2, _, _⟩ => ⟨ao, co, at_, ct, h1, h2⟩
  have S3 : ∀ (h : FH) (a : Option Addr) (c : Nat) (w : World), Sat h w → Half h → BS h a c (recB oS) → Spec Tryd.prog 40 #[.slice a (recB oS).length c] w [] h (fun v h' L' => ∃ ao co at_ ct, v = .tuple #[.agg [Value.int .u32 0, .slice ao 0 co, .slice at_ 0 ct, .bool false, .int .i64 0].toArray, .int .i64 5] ∧ L' = []) := fun h a c w hs hT hr =>
    (seg_ScanK (recB oS) s3 _ rfl h a c w hs hT hr (by omega)).mono fun v h' L' ⟨ao, co, at_, ct, h1, h2, _, _⟩ => ⟨ao, co, at_, ct, h1, h2⟩
  generalize headB 5 ++ recB oS = X at H hb8 lX lX2 S1 S2 hl ⊢
  replace H := H.nil8 5
  repeat' (first | ((first | refine WL.p rfl ?_ | refine WL.u ?_ | refine WL.g rfl rfl ?_ | refine WL.gu rfl ?_); first | (refine opk 1 rfl ?_; first | (refine ost_app8 (xs := []) H rfl rfl rfl (by (exact ixQ)) (hb8.full H) (by (try simp only [List.length_nil, List.length_append, List.length_cons, List.length_singleton]); omega) ?_; clear H; intro aa ca wk H; simp only [List.set_cons_zero, List.set_cons_succ, List.nil_append] at H) | (refine ost_app8 (xs := X) H rfl rfl rfl (by (exact ixQ)) (hf8.full H) (by (try simp only [List.length_nil, List.length_append, List.length_cons, List.length_singleton]); omega) ?_; clear H; intro aa ca wk H; simp only [List.set_cons_zero, List.set_cons_succ, List.nil_append] at H)) | refine pvQ ?_ | (refine opk 3 rfl ?_; first | (refine ost_eqA rfl (by decide) rfl rfl tyQ tyQ (fun hc => ?_) (fun hc => ?_) <;> try exact prEQ) | (refine ost_neA rfl (by decide) rfl rfl tyQ tyQ (fun hc => ?_) (fun hc => ?_) <;> try exact prEQ) | (refine ost_cmp rfl rfl rfl rfl (fun hc => ?_) (fun hc => ?_) <;> (simp only [cmpP] at hc; try exact prIQ))) | (refine opk 4 rfl ?_; (refine ost_cmp rfl rfl rfl rfl (fun hc => ?_) (fun hc => ?_) <;> (simp only [cmpP] at hc; try exact prIQ))) | (refine opk 8 rfl ?_; (refine ost_storeW H rfl rfl rfl rfl lQ ixQ lQ okQ ?_; clear H; intro wk H; simp only [List.set_cons_zero, List.set_cons_succ, Nat.reduceAdd] at H)) | (refine opk 9 rfl ?_; (refine ost_allocA H rfl ?_; clear H; intro bk wk H))) | refine Wc.seq ?_ | refine then_n ?_ | refine WL.nil ?_ | refine Wc.region ?_ | refine Wc.block ?_ | refine then_r ?_ | refine then_e ?_ | refine inb_e rfl ?_ | refine inb_o rfl ?_ | refine inb_n ?_ | refine inb_r ?_ | refine Wc.skip ?_ | refine Wc.exit ?_ | refine Wc.ret ?_ | refine Wc.cond_true rfl ?_ | refine Wc.cond_false rfl ?_ | (refine Wc.drawn (id := 10) 40 (by kernel_rfl) ?_) | refine WL.skp rfl rfl ?_ | refine WL.sku rfl ?_ | (refine rgs_nil ?_; intro vs wk hE; replace H := H.ext hE; clear hE) | refine RGs.skp (fun _ => rfl) rfl ?_ | (refine RGs.bq (fun _ => rfl) rfl (by intro vs w hE hP; have H := H.ext hE; first | exact dbQ | fail) (fun hc => ?_) (fun hc => ?_) <;> ((try simp only [cmpP, decide_eq_true_eq, decide_eq_false_iff_not, dcd_iff, dcd_no] at hc); try exact prDQ)) | refine RGs.pq (fun _ => rfl) rfl (by intro vs w hE hP; have H := H.ext hE; first | exact dvQ | fail) ?_)
  obtain ⟨a9, c9, h9, e9, hle9, hb9, H⟩ := H.freeze8
  cases e9
  have hca := hb8.le
  repeat' (first | ((first | refine WL.p rfl ?_ | refine WL.u ?_ | refine WL.g rfl rfl ?_ | refine WL.gu rfl ?_); first | (refine opk 1 rfl ?_; (refine ost_Sk H rfl (S1 _ _ _ _ H.sat (hT8.mono hle9) hb9) rfl ?_; clear H; rintro vk wk hfk Lk ⟨ao, co, at1, ct, rfl, rfl, hO, hA⟩ hle H; simp only [List.cons_append, List.nil_append] at H)) | refine pvQ ?_ | (refine opk 3 rfl ?_; first | (refine ost_eqA rfl (by decide) rfl rfl tyQ tyQ (fun hc => ?_) (fun hc => ?_) <;> try exact prEQ) | (refine ost_neA rfl (by decide) rfl rfl tyQ tyQ (fun hc => ?_) (fun hc => ?_) <;> try exact prEQ) | (refine ost_cmp rfl rfl rfl rfl (fun hc => ?_) (fun hc => ?_) <;> (simp only [cmpP] at hc; try exact prIQ))) | (refine opk 4 rfl ?_; (refine ost_cmp rfl rfl rfl rfl (fun hc => ?_) (fun hc => ?_) <;> (simp only [cmpP] at hc; try exact prIQ))) | (refine opk 8 rfl ?_; (refine ost_storeW H rfl rfl rfl rfl lQ ixQ lQ okQ ?_; clear H; intro wk H; simp only [List.set_cons_zero, List.set_cons_succ, Nat.reduceAdd] at H)) | (refine opk 9 rfl ?_; (refine ost_allocA H rfl ?_; clear H; intro bk wk H))) | refine Wc.seq ?_ | refine then_n ?_ | refine WL.nil ?_ | refine Wc.region ?_ | refine Wc.block ?_ | refine then_r ?_ | refine then_e ?_ | refine inb_e rfl ?_ | refine inb_o rfl ?_ | refine inb_n ?_ | refine inb_r ?_ | refine Wc.skip ?_ | refine Wc.exit ?_ | refine Wc.ret ?_ | refine Wc.cond_true rfl ?_ | refine Wc.cond_false rfl ?_ | (refine Wc.drawn (id := 10) 40 (by kernel_rfl) ?_) | refine WL.skp rfl rfl ?_ | refine WL.sku rfl ?_ | (refine rgs_nil ?_; intro vs wk hE; replace H := H.ext hE; clear hE) | refine RGs.skp (fun _ => rfl) rfl ?_ | (refine RGs.bq (fun _ => rfl) rfl (by intro vs w hE hP; have H := H.ext hE; first | exact dbQ | fail) (fun hc => ?_) (fun hc => ?_) <;> ((try simp only [cmpP, decide_eq_true_eq, decide_eq_false_iff_not, dcd_iff, dcd_no] at hc); try exact prDQ)) | refine RGs.pq (fun _ => rfl) rfl (by intro vs w hE hP; have H := H.ext hE; first | exact dvQ | fail) ?_)
  have hTa := (hT8.mono hle9).mono hle
  have hba := (hb8.mono hle9).mono hle
  have hra := (hr8.mono hle9).mono hle
  clear hle S1
  repeat' (first | ((first | refine WL.p rfl ?_ | refine WL.u ?_ | refine WL.g rfl rfl ?_ | refine WL.gu rfl ?_); first | (refine opk 1 rfl ?_; (refine ost_Sk H rfl (S2 _ _ _ _ H.sat hTa (hba.take _)) rfl ?_; clear H; rintro vk wk hfk Lk ⟨ao2, co2, at2, ct2, rfl, rfl⟩ hle H; simp only [List.cons_append, List.nil_append] at H)) | refine pvQ ?_ | (refine opk 3 rfl ?_; first | (refine ost_eqA rfl (by decide) rfl rfl tyQ tyQ (fun hc => ?_) (fun hc => ?_) <;> try exact prEQ) | (refine ost_neA rfl (by decide) rfl rfl tyQ tyQ (fun hc => ?_) (fun hc => ?_) <;> try exact prEQ) | (refine ost_cmp rfl rfl rfl rfl (fun hc => ?_) (fun hc => ?_) <;> (simp only [cmpP] at hc; try exact prIQ))) | (refine opk 4 rfl ?_; (refine ost_cmp rfl rfl rfl rfl (fun hc => ?_) (fun hc => ?_) <;> (simp only [cmpP] at hc; try exact prIQ))) | (refine opk 8 rfl ?_; (refine ost_storeW H rfl rfl rfl rfl lQ ixQ lQ okQ ?_; clear H; intro wk H; simp only [List.set_cons_zero, List.set_cons_succ, Nat.reduceAdd] at H)) | (refine opk 9 rfl ?_; (refine ost_allocA H rfl ?_; clear H; intro bk wk H))) | refine Wc.seq ?_ | refine then_n ?_ | refine WL.nil ?_ | refine Wc.region ?_ | refine Wc.block ?_ | refine then_r ?_ | refine then_e ?_ | refine inb_e rfl ?_ | refine inb_o rfl ?_ | refine inb_n ?_ | refine inb_r ?_ | refine Wc.skip ?_ | refine Wc.exit ?_ | refine Wc.ret ?_ | refine Wc.cond_true rfl ?_ | refine Wc.cond_false rfl ?_ | (refine Wc.drawn (id := 10) 40 (by kernel_rfl) ?_) | refine WL.skp rfl rfl ?_ | refine WL.sku rfl ?_ | (refine rgs_nil ?_; intro vs wk hE; replace H := H.ext hE; clear hE) | refine RGs.skp (fun _ => rfl) rfl ?_ | (refine RGs.bq (fun _ => rfl) rfl (by intro vs w hE hP; have H := H.ext hE; first | exact dbQ | fail) (fun hc => ?_) (fun hc => ?_) <;> ((try simp only [cmpP, decide_eq_true_eq, decide_eq_false_iff_not, dcd_iff, dcd_no] at hc); try exact prDQ)) | refine RGs.pq (fun _ => rfl) rfl (by intro vs w hE hP; have H := H.ext hE; first | exact dvQ | fail) ?_)
  have hTb := hTa.mono hle
  have hrb := hra.mono hle
  have hOb := hO.mono hle
  have hAb := hA.mono hle
  clear hle S2
  repeat' (first | ((first | refine WL.p rfl ?_ | refine WL.u ?_ | refine WL.g rfl rfl ?_ | refine WL.gu rfl ?_); first | (refine opk 1 rfl ?_; (refine ost_Sk H rfl (S3 _ _ _ _ H.sat hTb hrb) rfl ?_; clear H; rintro vk wk hfk Lk ⟨ao3, co3, at3, ct3, rfl, rfl⟩ hle H; simp only [List.cons_append, List.nil_append] at H)) | refine pvQ ?_ | (refine opk 3 rfl ?_; first | (refine ost_eqA rfl (by decide) rfl rfl tyQ tyQ (fun hc => ?_) (fun hc => ?_) <;> try exact prEQ) | (refine ost_neA rfl (by decide) rfl rfl tyQ tyQ (fun hc => ?_) (fun hc => ?_) <;> try exact prEQ) | (refine ost_cmp rfl rfl rfl rfl (fun hc => ?_) (fun hc => ?_) <;> (simp only [cmpP] at hc; try exact prIQ))) | (refine opk 4 rfl ?_; (refine ost_cmp rfl rfl rfl rfl (fun hc => ?_) (fun hc => ?_) <;> (simp only [cmpP] at hc; try exact prIQ))) | (refine opk 8 rfl ?_; (refine ost_storeW H rfl rfl rfl rfl lQ ixQ lQ okQ ?_; clear H; intro wk H; simp only [List.set_cons_zero, List.set_cons_succ, Nat.reduceAdd] at H)) | (refine opk 9 rfl ?_; (refine ost_allocA H rfl ?_; clear H; intro bk wk H))) | refine Wc.seq ?_ | refine then_n ?_ | refine WL.nil ?_ | refine Wc.region ?_ | refine Wc.block ?_ | refine then_r ?_ | refine then_e ?_ | refine inb_e rfl ?_ | refine inb_o rfl ?_ | refine inb_n ?_ | refine inb_r ?_ | refine Wc.skip ?_ | refine Wc.exit ?_ | refine Wc.ret ?_ | refine Wc.cond_true rfl ?_ | refine Wc.cond_false rfl ?_ | refine WL.skp rfl rfl ?_ | refine WL.sku rfl ?_)
  have hTc := hTb.mono hle
  have hOc := hOb.mono hle
  have hAc := hAb.mono hle
  clear hle S3
  obtain ⟨b5, off5, l5, T5, fr5, e5, eb5, eg5⟩ := Sl.getM (xs := [oS]) (f := cOp) hOc (by decide) (by decide)
  subst e5
  obtain ⟨b6, off6, l6, T6, fr6, e6, eb6, eg6⟩ := Sl.getM (xs := [(headB 5).length]) (f := cI) hAc (by decide) (by decide)
  subst e6
  have g5 := eg5 (0 : Int).toNat 0 (by decide) rfl
  have g6 : l6[off6 + (0 : Int).toNat * 1]? = some (.int .i64 ((headB 5).length : Nat)) := row_cell (eg6 (0 : Int).toNat 0 (by decide) rfl) (q := 0) (by decide)
  have g5 : (l5.drop (off5 + (0 : Int).toNat * 23)).take 23 = cOp oS := g5
  have cH9 := seg_Head 5
  clear eg5 eg6 hO hOb hA hAb cF cH cR
  repeat' (first | ((first | refine WL.p rfl ?_ | refine WL.u ?_ | refine WL.g rfl rfl ?_ | refine WL.gu rfl ?_); first | refine pvQ ?_ | (refine opk 3 rfl ?_; first | (refine ost_eqA rfl (by decide) rfl rfl tyQ tyQ (fun hc => ?_) (fun hc => ?_) <;> try exact prEQ) | (refine ost_neA rfl (by decide) rfl rfl tyQ tyQ (fun hc => ?_) (fun hc => ?_) <;> try exact prEQ) | (refine ost_cmp rfl rfl rfl rfl (fun hc => ?_) (fun hc => ?_) <;> (simp only [cmpP] at hc; try exact prIQ))) | (refine opk 4 rfl ?_; (refine ost_cmp rfl rfl rfl rfl (fun hc => ?_) (fun hc => ?_) <;> (simp only [cmpP] at hc; try exact prIQ))) | (refine opk 8 rfl ?_; (refine ost_storeW H rfl rfl rfl rfl lQ ixQ lQ okQ ?_; clear H; intro wk H; simp only [List.set_cons_zero, List.set_cons_succ, Nat.reduceAdd] at H)) | (refine opk 9 rfl ?_; (refine ost_allocA H rfl ?_; clear H; intro bk wk H))) | refine Wc.seq ?_ | refine then_n ?_ | refine WL.nil ?_ | refine Wc.region ?_ | refine Wc.block ?_ | refine then_r ?_ | refine then_e ?_ | refine inb_e rfl ?_ | refine inb_o rfl ?_ | refine inb_n ?_ | refine inb_r ?_ | refine Wc.skip ?_ | refine Wc.exit ?_ | refine Wc.ret ?_ | refine Wc.cond_true rfl ?_ | refine Wc.cond_false rfl ?_ | (refine Wc.drawnB (id := 10) 40 [(38, headB 5)] (by kernel_rfl) ?_) | refine WL.skp rfl rfl ?_ | refine WL.sku rfl ?_ | (refine rgs_nil ?_; intro vs wk hE; replace H := H.ext hE; clear hE) | refine RGs.skp (fun _ => rfl) rfl ?_ | (refine RGs.bq (fun _ => rfl) rfl (by intro vs w hE hP; have H := H.ext hE; first | exact dbQ | fail) (fun hc => ?_) (fun hc => ?_) <;> ((try simp only [cmpP, decide_eq_true_eq, decide_eq_false_iff_not, dcd_iff, dcd_no] at hc); try exact prDQ)) | refine RGs.pq (fun _ => rfl) rfl (by intro vs w hE hP; have H := H.ext hE; first | (refine opk 1 rfl ?_; (refine ost_lenB rfl (pf_B hP 38 (by kernel_rfl) rfl rfl) ?_; exact ⟨Fr.refl _ _, rfl⟩)) | (refine ost_toStrV rfl (pf_B hP 38 (by kernel_rfl) rfl rfl) ?_; exact ⟨Fr.refl _ _, rfl⟩) | exact dvQ | fail) ?_ | refine RGs.sq (fun _ => rfl) rfl (by intro vs w hE hP; have H := H.ext hE; first | (refine ost_B rfl (cH9 _ _ (sat_full _) (hTc.full H)) rfl (fun _ _ _ ⟨_, _, _, e⟩ => e) ?_; intro vk wk hX hB; exact ⟨hX, hB⟩) | fail) ?_)
  (first | refine fn_ret1 (v := .bool _) rfl rfl ⟨?_, H.fr⟩ | refine fn_ret1 (v := .int _ _) rfl rfl ⟨?_, H.fr⟩ | refine fn_ret1 (v := .string _) rfl rfl ⟨?_, H.fr⟩); rfl
end Go.Tg

set_option linter.unusedVariables false
set_option linter.unusedSimpArgs false
set_option maxRecDepth 100000
set_option maxHeartbeats 4000000
namespace Go.Tg
open Go Go.Proofs
theorem r12_pair (k n : Nat) (hk : k < 18446744073709551616) (hn : n < 18446744073709551616) (h0 : FH) (w : World) (hs : Sat h0 w) :
    Spec Tryd.prog 82 #[.int .u64 k, .int .u64 n] w [] h0 (fun v h' L' => ∃ a' c', v = .slice a' (numF k n).length c' ∧ L' = [own8 v 5 (numF k n)]) := by
  have H := St.start hs
  have p1 := putB_len k
  have p2 := putB_len n
  have hJ : ∀ (h0 : FH) (a1 : Option Addr) (c1 : Nat) (a2 : Option Addr) (c2 : Nat) (w : World) (hs : Sat h0 w) (hx : BS h0 a1 c1 (putB k)) (hy : BS h0 a2 c2 (putB n)), Spec Tryd.prog 123 #[.slice a1 (putB k).length c1, .slice a2 (putB n).length c2] w [] h0 (fun v h' L' => ∃ a' c', v = .slice a' (numF k n).length c' ∧ h' = h0 ∧ L' = [own8 v 5 (numF k n)]) :=
    fun h0 a1 c1 a2 c2 w hs hx hy => r3_Join h0 w hs a1 c1 (putB k) a2 c2 (putB n) hx hy (by omega)
  unfold Spec
  refine calls_of Tryd.func82 rfl Tryd.ntmps82 (by simp) ?_
  repeat' (first | ((first | refine WL.p rfl ?_ | refine WL.u ?_); first | (refine opk 1 rfl ?_; first | (refine ost_C H rfl (r2_Put k (by omega) _ _ (sat_full _)) rfl ?_; clear H; rintro vk wk hfk Lk ⟨a1, c1, rfl, _, rfl⟩ H; simp only [List.cons_append, List.nil_append] at H) | (refine ost_C H rfl (r2_Put n (by omega) _ _ (sat_full _)) rfl ?_; clear H; rintro vk wk hfk Lk ⟨a1, c1, rfl, _, rfl⟩ H; simp only [List.cons_append, List.nil_append] at H) | (refine ost_C H rfl (hJ _ _ _ _ _ _ (sat_full _) (H.own8rd (i := 1) rfl) (H.own8rd (i := 0) rfl)) rfl ?_; clear H; rintro vk wk hfk Lk ⟨a2, c2, rfl, _, rfl⟩ H; simp only [List.cons_append, List.nil_append] at H)) | refine pvQ ?_) | refine Wc.seq ?_ | refine then_n ?_ | refine WL.nil ?_ | refine Wc.region ?_ | refine Wc.block ?_ | refine then_r ?_ | refine then_e ?_ | refine inb_e rfl ?_ | refine inb_o rfl ?_ | refine inb_n ?_ | refine inb_r ?_ | refine Wc.skip ?_ | refine Wc.exit ?_ | refine Wc.ret ?_ | refine Wc.cond_true rfl ?_ | refine Wc.cond_false rfl ?_)
  exact fn_ret1 (v := .slice _ _ _) rfl rfl ⟨_, _, H.pick 0 rfl, _, _, rfl, rfl⟩
theorem r12_Head (id : UInt32) (h0 : FH) (w : World) (hs : Sat h0 w) :
    Spec Tryd.prog 39 #[.int .u32 id.toNat] w [] h0 (fun v h' L' => ∃ a' c', v = .slice a' (headB id).length c' ∧ L' = [own8 v 5 (headB id)]) := by
  have H := St.start hs
  have hi := id.toNat_lt
  have hl := numF_len 1 id.toNat
  unfold Spec
  refine calls_of Tryd.func39 rfl Tryd.ntmps39 (by simp) ?_
  repeat' (first | ((first | refine WL.p rfl ?_ | refine WL.u ?_); first | (refine opk 1 rfl ?_; first | (refine ost_C H rfl (r12_pair 1 id.toNat (by omega) (by omega) _ _ (sat_full _)) rfl ?_; clear H; rintro vk wk hfk Lk ⟨a1, c1, rfl, rfl⟩ H; simp only [List.cons_append, List.nil_append] at H) | (refine ost_C H rfl (r10_Wrapn _ _ _ _ (numF 1 id.toNat) _ (sat_full _) rfl (by omega) (H.own8rd (i := 0) rfl)) rfl ?_; clear H; rintro vk wk hfk Lk ⟨a5, c5, rfl, _, rfl⟩ H; simp only [List.cons_append, List.nil_append] at H)) | refine pvQ ?_) | refine Wc.seq ?_ | refine then_n ?_ | refine WL.nil ?_ | refine Wc.region ?_ | refine Wc.block ?_ | refine then_r ?_ | refine then_e ?_ | refine inb_e rfl ?_ | refine inb_o rfl ?_ | refine inb_n ?_ | refine inb_r ?_ | refine Wc.skip ?_ | refine Wc.exit ?_ | refine Wc.ret ?_ | refine Wc.cond_true rfl ?_ | refine Wc.cond_false rfl ?_)
  exact fn_ret1 (v := .slice _ _ _) rfl rfl ⟨_, _, H.pick 0 rfl, _, _, rfl, rfl⟩
theorem r12_Foot (n : Int) (n1 : -9223372036854775808 ≤ n) (n2 : n ≤ 9223372036854775807) (h0 : FH) (w : World) (hs : Sat h0 w) :
    Spec Tryd.prog 37 #[.int .i64 n] w [] h0 (fun v h' L' => ∃ a' c', v = .tuple #[.slice a' (outK n).1.length c', .int .i64 (outK n).2] ∧ L' = [own8 (.slice a' (outK n).1.length c') 5 (outK n).1]) := by
  have H := St.start hs
  unfold Spec
  refine calls_of Tryd.func37 rfl Tryd.ntmps37 (by simp) ?_
  by_cases hn : 0 ≤ n ∧ n ≤ 4096
  · rw [show outK n = (footB n.toNat, 0) from if_pos hn]
    obtain ⟨m, rfl⟩ := Int.eq_ofNat_of_zero_le hn.1
    have hm : m ≤ 4096 := by omega
    have hl := numF_len 3 m
    rw [show ((m : Int)).toNat = m from rfl]
    repeat' (first | ((first | refine WL.p rfl ?_ | refine WL.u ?_ | refine WL.g rfl rfl ?_ | refine WL.gu rfl ?_); first | (refine opk 1 rfl ?_; first | (refine ost_C H rfl (r12_pair 3 m (by omega) (by omega) _ _ (sat_full _)) rfl ?_; clear H; rintro vk wk hfk Lk ⟨a1, c1, rfl, rfl⟩ H; simp only [List.cons_append, List.nil_append] at H) | (refine ost_C H rfl (r10_Wrapn _ _ _ _ (numF 3 m) _ (sat_full _) rfl (by omega) (H.own8rd (i := 0) rfl)) rfl ?_; clear H; rintro vk wk hfk Lk ⟨a5, c5, rfl, _, rfl⟩ H; simp only [List.cons_append, List.nil_append] at H)) | refine pvQ ?_ | (refine opk 3 rfl ?_; (refine ost_cmp rfl rfl rfl rfl (fun hc => ?_) (fun hc => ?_) <;> (simp only [cmpP] at hc; try exact prIQ))) | (refine opk 4 rfl ?_; (refine ost_cmp rfl rfl rfl rfl (fun hc => ?_) (fun hc => ?_) <;> (simp only [cmpP] at hc; try exact prIQ)))) | refine Wc.seq ?_ | refine then_n ?_ | refine WL.nil ?_ | refine Wc.region ?_ | refine Wc.block ?_ | refine then_r ?_ | refine then_e ?_ | refine inb_e rfl ?_ | refine inb_o rfl ?_ | refine inb_n ?_ | refine inb_r ?_ | refine Wc.skip ?_ | refine Wc.exit ?_ | refine Wc.ret ?_ | refine Wc.cond_true rfl ?_ | refine Wc.cond_false rfl ?_ | refine WL.skp rfl rfl ?_ | refine WL.sku rfl ?_)
    exact fn_ret2 (v1 := .slice _ _ _) (v2 := .int _ _) rfl rfl rfl ⟨_, _, H.pick 0 rfl, _, _, rfl, rfl⟩
  · rw [show outK n = ([], 2) from if_neg hn]
    repeat' (first | ((first | refine WL.p rfl ?_ | refine WL.u ?_ | refine WL.g rfl rfl ?_ | refine WL.gu rfl ?_); first | refine pvQ ?_ | (refine opk 3 rfl ?_; (refine ost_cmp rfl rfl rfl rfl (fun hc => ?_) (fun hc => ?_) <;> (simp only [cmpP] at hc; try exact prIQ))) | (refine opk 4 rfl ?_; (refine ost_cmp rfl rfl rfl rfl (fun hc => ?_) (fun hc => ?_) <;> (simp only [cmpP] at hc; try exact prIQ)))) | refine Wc.seq ?_ | refine then_n ?_ | refine WL.nil ?_ | refine Wc.region ?_ | refine Wc.block ?_ | refine then_r ?_ | refine then_e ?_ | refine inb_e rfl ?_ | refine inb_o rfl ?_ | refine inb_n ?_ | refine inb_r ?_ | refine Wc.skip ?_ | refine Wc.exit ?_ | refine Wc.ret ?_ | refine Wc.cond_true rfl ?_ | refine Wc.cond_false rfl ?_ | refine WL.skp rfl rfl ?_ | refine WL.sku rfl ?_)
    all_goals exact fn_ret2 (v1 := .slice _ _ _) (v2 := .int _ _) rfl rfl rfl ⟨_, _, (H.nil8 5).pick 0 rfl, _, _, rfl, rfl⟩
noncomputable def recO (o : OpT) : List UInt8 × Bool := if rightO o 16 = true then (recF o, true) else ([], false)
theorem r12_record (o : OpT) (h0 : FH) (w : World) (hs : Sat h0 w) :
    Spec Tryd.prog 79 #[.agg (cOp o).toArray] w [] h0 (fun v h' L' => ∃ a' c', v = .tuple #[.slice a' (recO o).1.length c', .bool (recO o).2] ∧ L' = [own8 (.slice a' (recO o).1.length c') 5 (recO o).1]) := by
  have H := St.start hs
  have lo := cOp_len o
  unfold Spec
  refine calls_of Tryd.func79 rfl Tryd.ntmps79 (by simp) ?_
  cases hr : rightO o 16 with
  | true =>
    have hl := encO_len o
    have hf := fieldB_len (encO o)
    have hp := putB_len 2
    have hE : ∀ w, Sat h0 w → Spec Tryd.prog 122 #[.agg (cOp o).toArray] w [] h0 (fun v h' L' => ∃ a' c', v = .tuple #[.slice a' (encO o).length c', .int .i64 0] ∧ h' = h0 ∧ L' = [own8 (.slice a' (encO o).length c') 5 (encO o)]) := fun w hs => by
      have := r6_Encode h0 o w hs
      rw [show outO o = (encO o, 0) by unfold outO; rw [if_pos hr]] at this; exact this
    rw [show recO o = (recF o, true) by unfold recO; rw [if_pos hr]]
    have hJ : ∀ (h0 : FH) (a1 : Option Addr) (c1 : Nat) (a2 : Option Addr) (c2 : Nat) (w : World) (hs : Sat h0 w) (hx : BS h0 a1 c1 (putB 2)) (hy : BS h0 a2 c2 (fieldB (encO o))), Spec Tryd.prog 123 #[.slice a1 (putB 2).length c1, .slice a2 (fieldB (encO o)).length c2] w [] h0 (fun v h' L' => ∃ a' c', v = .slice a' (recF o).length c' ∧ h' = h0 ∧ L' = [own8 v 5 (recF o)]) :=
      fun h0 a1 c1 a2 c2 w hs hx hy => r3_Join h0 w hs a1 c1 (putB 2) a2 c2 (fieldB (encO o)) hx hy (by omega)
    repeat' (first | ((first | refine WL.p rfl ?_ | refine WL.u ?_); first | (refine opk 1 rfl ?_; first | (refine ost_Sk H rfl (hE _ H.sat) rfl ?_; clear H; rintro vk wk hfk Lk ⟨a1, c1, rfl, e9, rfl⟩ hle H; simp only [List.cons_append, List.nil_append] at H) | (refine ost_C H rfl (r2_Put 2 (by omega) _ _ (sat_full _)) rfl ?_; clear H; rintro vk wk hfk Lk ⟨a1, c1, rfl, _, rfl⟩ H; simp only [List.cons_append, List.nil_append] at H) | (refine ost_C H rfl (r3_Field _ _ (sat_full _) _ _ (encO o) (H.own8rd (i := 1) rfl) (by omega)) rfl ?_; clear H; rintro vk wk hfk Lk ⟨a1, c1, rfl, _, rfl⟩ H; simp only [List.cons_append, List.nil_append] at H) | (refine ost_C H rfl (hJ _ _ _ _ _ _ (sat_full _) (H.own8rd (i := 1) rfl) (H.own8rd (i := 0) rfl)) rfl ?_; clear H; rintro vk wk hfk Lk ⟨a2, c2, rfl, _, rfl⟩ H; simp only [List.cons_append, List.nil_append] at H)) | refine pvQ ?_ | (refine opk 3 rfl ?_; (refine ost_cmp rfl rfl rfl rfl (fun hc => ?_) (fun hc => ?_) <;> (simp only [cmpP] at hc; try exact prIQ))) | (refine opk 4 rfl ?_; (refine ost_cmp rfl rfl rfl rfl (fun hc => ?_) (fun hc => ?_) <;> (simp only [cmpP] at hc; try exact prIQ))) | (refine opk 9 rfl ?_; (refine ost_boxq H rfl ?_; clear H; intro bk wk H))) | refine Wc.seq ?_ | refine then_n ?_ | refine WL.nil ?_ | refine Wc.region ?_ | refine Wc.block ?_ | refine then_r ?_ | refine then_e ?_ | refine inb_e rfl ?_ | refine inb_o rfl ?_ | refine inb_n ?_ | refine inb_r ?_ | refine Wc.skip ?_ | refine Wc.exit ?_ | refine Wc.ret ?_ | refine Wc.cond_true rfl ?_ | refine Wc.cond_false rfl ?_)
    exact fn_ret2 (v1 := .slice _ _ _) (v2 := .bool _) rfl rfl rfl ⟨_, _, H.pick 0 rfl, _, _, rfl, rfl⟩
  | false =>
    have hE : ∀ w, Sat h0 w → Spec Tryd.prog 122 #[.agg (cOp o).toArray] w [] h0 (fun v h' L' => ∃ a' c', v = .tuple #[.slice a' ([] : List UInt8).length c', .int .i64 2] ∧ h' = h0 ∧ L' = [own8 (.slice a' ([] : List UInt8).length c') 5 []]) := fun w hs => by
      have := r6_Encode h0 o w hs
      rw [show outO o = ([], 2) by unfold outO; rw [hr]; rfl] at this; exact this
    rw [show recO o = ([], false) by unfold recO; rw [hr]; rfl]
    repeat' (first | ((first | refine WL.p rfl ?_ | refine WL.u ?_); first | (refine opk 1 rfl ?_; (refine ost_Sk H rfl (hE _ H.sat) rfl ?_; clear H; rintro vk wk hfk Lk ⟨a1, c1, rfl, e9, rfl⟩ hle H; simp only [List.cons_append, List.nil_append] at H)) | refine pvQ ?_ | (refine opk 3 rfl ?_; (refine ost_cmp rfl rfl rfl rfl (fun hc => ?_) (fun hc => ?_) <;> (simp only [cmpP] at hc; try exact prIQ))) | (refine opk 4 rfl ?_; (refine ost_cmp rfl rfl rfl rfl (fun hc => ?_) (fun hc => ?_) <;> (simp only [cmpP] at hc; try exact prIQ))) | (refine opk 9 rfl ?_; (refine ost_boxq H rfl ?_; clear H; intro bk wk H))) | refine Wc.seq ?_ | refine then_n ?_ | refine WL.nil ?_ | refine Wc.region ?_ | refine Wc.block ?_ | refine then_r ?_ | refine then_e ?_ | refine inb_e rfl ?_ | refine inb_o rfl ?_ | refine inb_n ?_ | refine inb_r ?_ | refine Wc.skip ?_ | refine Wc.exit ?_ | refine Wc.ret ?_ | refine Wc.cond_true rfl ?_ | refine Wc.cond_false rfl ?_)
    exact fn_ret2 (v1 := .slice _ _ _) (v2 := .bool _) rfl rfl rfl ⟨_, _, (H.nil8 5).pick 0 rfl, _, _, rfl, rfl⟩
theorem r12_Record (o : OpT) (h0 : FH) (w : World) (hs : Sat h0 w) :
    Spec Tryd.prog 35 #[.agg (cOp o).toArray] w [] h0 (fun v h' L' => ∃ a' c', v = .tuple #[.slice a' (outC o).1.length c', .int .i64 (outC o).2] ∧ L' = [own8 (.slice a' (outC o).1.length c') 5 (outC o).1]) := by
  have H := St.start hs
  have lo := cOp_len o
  have hE := r12_record o
  have hl := recF_len o
  unfold Spec
  refine calls_of Tryd.func35 rfl Tryd.ntmps35 (by simp) ?_
  cases hr : rightO o 16 with
  | true =>
    rw [show recO o = (recF o, true) by unfold recO; rw [if_pos hr]] at hE
    rw [outC_r hr]
    repeat' (first | ((first | refine WL.p rfl ?_ | refine WL.u ?_); first | (refine opk 1 rfl ?_; first | (refine ost_C H rfl (hE _ _ (sat_full _)) rfl ?_; clear H; rintro vk wk hfk Lk ⟨a1, c1, rfl, rfl⟩ H; simp only [List.cons_append, List.nil_append] at H) | (refine ost_C H rfl (r10_Wrapn _ _ _ _ (recF o) _ (sat_full _) rfl (by omega) (H.own8rd (i := 0) rfl)) rfl ?_; clear H; rintro vk wk hfk Lk ⟨a5, c5, rfl, _, rfl⟩ H; simp only [List.cons_append, List.nil_append] at H)) | refine pvQ ?_ | (refine opk 9 rfl ?_; (refine ost_boxq H rfl ?_; clear H; intro bk wk H))) | refine Wc.seq ?_ | refine then_n ?_ | refine WL.nil ?_ | refine Wc.region ?_ | refine Wc.block ?_ | refine then_r ?_ | refine then_e ?_ | refine inb_e rfl ?_ | refine inb_o rfl ?_ | refine inb_n ?_ | refine inb_r ?_ | refine Wc.skip ?_ | refine Wc.exit ?_ | refine Wc.ret ?_ | refine Wc.cond_true rfl ?_ | refine Wc.cond_false rfl ?_)
    exact fn_ret2 (v1 := .slice _ _ _) (v2 := .int _ _) rfl rfl rfl ⟨_, _, H.pick 0 rfl, _, _, rfl, rfl⟩
  | false =>
    rw [show recO o = ([], false) by unfold recO; rw [hr]; rfl] at hE
    rw [outC_n hr]
    repeat' (first | ((first | refine WL.p rfl ?_ | refine WL.u ?_); first | (refine opk 1 rfl ?_; (refine ost_C H rfl (hE _ _ (sat_full _)) rfl ?_; clear H; rintro vk wk hfk Lk ⟨a1, c1, rfl, rfl⟩ H; simp only [List.cons_append, List.nil_append] at H)) | refine pvQ ?_ | (refine opk 9 rfl ?_; (refine ost_boxq H rfl ?_; clear H; intro bk wk H))) | refine Wc.seq ?_ | refine then_n ?_ | refine WL.nil ?_ | refine Wc.region ?_ | refine Wc.block ?_ | refine then_r ?_ | refine then_e ?_ | refine inb_e rfl ?_ | refine inb_o rfl ?_ | refine inb_n ?_ | refine inb_r ?_ | refine Wc.skip ?_ | refine Wc.exit ?_ | refine Wc.ret ?_ | refine Wc.cond_true rfl ?_ | refine Wc.cond_false rfl ?_)
    exact fn_ret2 (v1 := .slice _ _ _) (v2 := .int _ _) rfl rfl rfl ⟨_, _, (H.nil8 5).pick 0 rfl, _, _, rfl, rfl⟩
end Go.Tg

set_option linter.unusedVariables false
set_option linter.unusedSimpArgs false
set_option maxRecDepth 100000
set_option maxHeartbeats 4000000
namespace Go.Tg
open Go Go.Proofs
theorem op_ok {w : World} {r : Reach} {b : Nat} {v : Value} (h : Value.okWide Tryd.prog w r b 67 v) : ∃ o : OpT, v = .agg (cOp o).toArray := by
  obtain ⟨l, rfl, hl, hc⟩ := cells_of_ok (ts := [5, 28, 5, 27, 27, 27, 28] ++ List.replicate 16 28) Tryd.underlying67 rfl (by kernel_rfl) (by kernel_rfl) h
  have hl : l.length = 23 := by simpa using hl
  match l, hl, hc with
  | x0 :: x1 :: x2 :: x3 :: x4 :: x5 :: x6 :: l, hl, hc =>
    have hl16 : l.length = 16 := by simpa using hl
    obtain ⟨n0, e0, a0, b0⟩ := int_of_ok Tryd.underlying5 (hc 0 (by simp) (by simp))
    obtain ⟨n1, e1, a1, b1⟩ := int_of_ok Tryd.underlying28 (hc 1 (by simp) (by simp))
    obtain ⟨n2, e2, a2, b2⟩ := int_of_ok Tryd.underlying5 (hc 2 (by simp) (by simp))
    obtain ⟨n3, e3, a3, b3⟩ := int_of_ok Tryd.underlying27 (hc 3 (by simp) (by simp))
    obtain ⟨n4, e4, a4, b4⟩ := int_of_ok Tryd.underlying27 (hc 4 (by simp) (by simp))
    obtain ⟨n5, e5, a5, b5⟩ := int_of_ok Tryd.underlying27 (hc 5 (by simp) (by simp))
    obtain ⟨n6, e6, a6, b6⟩ := int_of_ok Tryd.underlying28 (hc 6 (by simp) (by simp))
    simp only [List.getElem_cons_zero, List.getElem_cons_succ] at e0 e1 e2 e3 e4 e5 e6
    subst e0; subst e1; subst e2; subst e3; subst e4; subst e5; subst e6
    have a0 : 0 ≤ n0 := a0; have b0 : n0 ≤ 255 := b0
    have a1 : 0 ≤ n1 := a1; have b1 : n1 ≤ 4294967295 := b1
    have a2 : 0 ≤ n2 := a2; have b2 : n2 ≤ 255 := b2
    have a3 : 0 ≤ n3 := a3; have b3 : n3 ≤ 65535 := b3
    have a4 : 0 ≤ n4 := a4; have b4 : n4 ≤ 65535 := b4
    have a5 : 0 ≤ n5 := a5; have b5 : n5 ≤ 65535 := b5
    have a6 : 0 ≤ n6 := a6; have b6 : n6 ≤ 4294967295 := b6
    have hx : ∀ i : Fin 16, ∃ x : UInt32, l[i.val] = u32 x := fun i => by
      have h1 := hc (i.val + 7) (by have := i.isLt; simp; omega) (by have := i.isLt; simp; omega)
      simp only [List.getElem_cons_succ, List.cons_append, List.nil_append, List.getElem_replicate] at h1
      obtain ⟨n, e, h2, h3⟩ := int_of_ok Tryd.underlying28 h1
      have h2 : 0 ≤ n := h2
      have h3 : n ≤ 4294967295 := h3
      exact ⟨UInt32.ofNat n.toNat, by rw [e, u32]; simp; omega⟩
    have hv : l = cV fun i => (hx i).choose := by
      apply List.ext_getElem
      · rw [cV_len, hl16]
      · intro i h1 h2
        rw [(hx ⟨i, by omega⟩).choose_spec]
        simp only [cV, List.getElem_ofFn]
    refine ⟨⟨⟨UInt8.ofNat n0.toNat, UInt32.ofNat n1.toNat⟩, UInt8.ofNat n2.toNat, UInt16.ofNat n3.toNat, UInt16.ofNat n4.toNat, UInt16.ofNat n5.toNat, UInt32.ofNat n6.toNat, fun i => (hx i).choose⟩, ?_⟩
    congr 2
    unfold cOp
    rw [← hv]
    simp
    omega
end Go.Tg

