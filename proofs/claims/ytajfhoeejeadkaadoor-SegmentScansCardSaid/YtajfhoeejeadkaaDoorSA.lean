/- Contracts of Go functions that the laws reach: what each call answers and leaves in memory, for all arguments within the bounds that each theorem names. -/
import Derived.Test.YtajfhoeejeadkaaDoorInst
import Derived.Test.YtajfhoeejeadkaaDoorAuto
import Derived.Test.YtajfhoeejeadkaaDoorO7
set_option linter.unusedVariables false
set_option linter.unusedSimpArgs false
set_option maxRecDepth 100000
set_option maxHeartbeats 4000000
namespace Go.Tg
open Go Go.Proofs
theorem ok2_eq (f : List UInt8) (kind : Nat) : ok2 f kind = (decide ((numE 0 f).2.1 = 0) && (decide ((numE (numE 0 f).2.2.1 (numE 0 f).2.2.2).2.1 = 0) && ok2 f kind)) := by
  by_cases h : (numE (numE 0 f).2.2.1 (numE 0 f).2.2.2).2.2.1 = 0
  · obtain ⟨h1, h2⟩ := numE_e0 h
    obtain ⟨-, h3⟩ := numE_e0 (e := 0) h1
    have h4 : (numE (numE 0 f).2.2.1 (numE 0 f).2.2.2).2.1 = 0 := by rw [h1]; exact h2
    rw [decide_eq_true h3, decide_eq_true h4, Bool.true_and, Bool.true_and]
  · have : ok2 f kind = false := by unfold ok2; rw [decide_eq_false h, Bool.false_and, Bool.and_false]
    rw [this, Bool.and_false, Bool.and_false]
theorem r12_second (h0 : FH) (a : Option Addr) (c : Nat) (f : List UInt8) (kind : Nat) (w : World) (hs : Sat h0 w) (hr : BS h0 a c f) (hb : f.length ≤ 1000000) :
    SpecV Tryd.prog 87 #[.slice a f.length c, .int .u64 kind] w (.tuple #[.int .u64 (nm2 f), .bool (ok2 f kind)]) := by
  have H := St.start hs
  have hq := ok2_eq f kind
  have hd : ok2 f kind = (decide ((numE 0 f).1 = kind) && (decide ((numE (numE 0 f).2.2.1 (numE 0 f).2.2.2).2.2.1 = 0) && decide ((numE (numE 0 f).2.2.1 (numE 0 f).2.2.2).2.2.2.length = 0))) := rfl
  unfold SpecV
  refine calls_of Tryd.func87 rfl Tryd.ntmps87 (by simp) ?_
  repeat' (first | ((first | refine WL.p rfl ?_ | refine WL.u ?_ | refine WL.g rfl rfl ?_ | refine WL.gu rfl ?_); first | (refine opk 1 rfl ?_; (refine ost_Sk H rfl (r3_Num _ _ H.sat _ _ _ _ hr) rfl ?_; clear H; rintro vk wk hfk Lk ⟨a1, c1, rfl, rfl, rfl, hr1⟩ hle H; simp only [List.cons_append, List.nil_append] at H)) | refine pvQ ?_ | (refine opk 3 rfl ?_; (refine ost_cmp rfl rfl rfl rfl (fun hc => ?_) (fun hc => ?_) <;> (simp only [cmpP] at hc; try exact prIQ))) | (refine opk 4 rfl ?_; (refine ost_cmp rfl rfl rfl rfl (fun hc => ?_) (fun hc => ?_) <;> (simp only [cmpP] at hc; try exact prIQ))) | (refine opk 8 rfl ?_; (refine ost_storeW H rfl rfl rfl rfl lQ ixQ lQ okQ ?_; clear H; intro wk H; simp only [List.set_cons_zero, List.set_cons_succ, Nat.reduceAdd] at H)) | (refine opk 9 rfl ?_; (refine ost_allocA H rfl ?_; clear H; intro bk wk H))) | refine Wc.seq ?_ | refine then_n ?_ | refine WL.nil ?_ | refine Wc.region ?_ | refine Wc.block ?_ | refine then_r ?_ | refine then_e ?_ | refine inb_e rfl ?_ | refine inb_o rfl ?_ | refine inb_n ?_ | refine inb_r ?_ | refine Wc.skip ?_ | refine Wc.exit ?_ | refine Wc.ret ?_ | refine Wc.cond_true rfl ?_ | refine Wc.cond_false rfl ?_ | refine WL.skp rfl rfl ?_ | refine WL.sku rfl ?_)
  repeat' (first | ((first | refine WL.p rfl ?_ | refine WL.u ?_ | refine WL.g rfl rfl ?_ | refine WL.gu rfl ?_); first | (refine opk 1 rfl ?_; first | (refine ost_Sk H rfl (r3_Num _ _ H.sat _ _ _ _ hr1) rfl ?_; clear H; rintro vk wk hfk Lk ⟨a2, c2, rfl, rfl, rfl, hr2⟩ hle H; simp only [List.cons_append, List.nil_append] at H) | (refine ost_VB H rfl (r3_Done _ _ _ _ _) rfl ?_ ?_ <;> (intro hc; (try (first | exact (bcon hc ‹_›).elim | exact (bcon ‹_› hc).elim)); try (clear H; intro wk H)))) | refine pvQ ?_ | (refine opk 3 rfl ?_; (refine ost_cmp rfl rfl rfl rfl (fun hc => ?_) (fun hc => ?_) <;> (simp only [cmpP] at hc; try exact prIQ))) | (refine opk 4 rfl ?_; (refine ost_cmp rfl rfl rfl rfl (fun hc => ?_) (fun hc => ?_) <;> (simp only [cmpP] at hc; try exact prIQ))) | (refine opk 8 rfl ?_; (refine ost_storeW H rfl rfl rfl rfl lQ ixQ lQ okQ ?_; clear H; intro wk H; simp only [List.set_cons_zero, List.set_cons_succ, Nat.reduceAdd] at H)) | (refine opk 9 rfl ?_; (refine ost_allocA H rfl ?_; clear H; intro bk wk H))) | refine Wc.seq ?_ | refine then_n ?_ | refine WL.nil ?_ | refine Wc.region ?_ | refine Wc.block ?_ | refine then_r ?_ | refine then_e ?_ | refine inb_e rfl ?_ | refine inb_o rfl ?_ | refine inb_n ?_ | refine inb_r ?_ | refine Wc.skip ?_ | refine Wc.exit ?_ | refine Wc.ret ?_ | refine Wc.cond_true rfl ?_ | refine Wc.cond_false rfl ?_ | refine WL.skp rfl rfl ?_ | refine WL.sku rfl ?_)
  · exact fn_ret2 (v1 := .int _ _) (v2 := .bool _) rfl rfl rfl ⟨num_fin (by rw [hd, hc, Bool.and_true]; exact decide_eq_true (by omega)), H.fr⟩
  · exact fn_ret2 (v1 := .int _ _) (v2 := .bool _) rfl rfl rfl ⟨num_fin (by rw [hd, hc, Bool.and_false]), H.fr⟩
  · exact fn_ret2 (v1 := .int _ _) (v2 := .bool _) rfl rfl rfl ⟨num_fin (by rw [hd, decide_eq_false (by omega), Bool.false_and]), H.fr⟩
  · exact fn_ret2 (v1 := .int _ _) (v2 := .bool _) rfl rfl rfl ⟨num_fin (by rw [hq, decide_eq_false (by assumption : ¬ (numE (numE 0 f).2.2.1 (numE 0 f).2.2.2).2.1 = 0), Bool.false_and, Bool.and_false]), H.fr⟩
  · exact fn_ret2 (v1 := .int _ _) (v2 := .bool _) rfl rfl rfl ⟨num_fin (by rw [hq, decide_eq_false (by assumption : ¬ (numE 0 f).2.1 = 0), Bool.false_and]), H.fr⟩
noncomputable def opR (f : List UInt8) : OpT := if (numE 0 f).2.1 = 0 ∧ (bt2 f).2.1 = 0 ∧ (numE 0 f).1 = 2 then (decO (bt2 f).1).1 else zeroO
theorem opR_of {f : List UInt8} {o : OpT} (h : isOp f = some o) : opR f = o ∧ (opS f).2 = true := by
  obtain ⟨h1, h2⟩ := isOp_some h
  have h3 := numE_putB 2 (by decide) (fieldB (encO o))
  have h4 := (bt2_of (encO o) (by have := encO_len o; omega)).1
  have e : putB 2 ++ fieldB (encO o) = f := h2
  rw [e] at h3 h4
  unfold opR
  rw [h3, h4, if_pos ⟨rfl, rfl, rfl⟩, decO_enc h1]
  exact ⟨rfl, by unfold opS; rw [h]⟩
theorem opS_iff (f : List UInt8) : (opS f).2 = true ↔ ∃ o, rightO o 16 = true ∧ recF o = f := by
  unfold opS
  cases h : isOp f with
  | some o => exact ⟨fun _ => ⟨o, isOp_some h⟩, fun _ => rfl⟩
  | none => exact ⟨fun h9 => (by cases h9), fun ⟨o, h1, h2⟩ => absurd h2 (isOp_none.1 h o h1)⟩
theorem r12_operation (h0 : FH) (a : Option Addr) (c : Nat) (f : List UInt8) (w : World) (hs : Sat h0 w) (hr : BS h0 a c f) (hb : f.length ≤ 1000000) :
    SpecV Tryd.prog 88 #[.slice a f.length c] w (.tuple #[.agg (cOp (opR f)).toArray, .bool (opS f).2]) := by
  have H := St.start hs
  have hl := numE_len 0 f
  have hK := bytesE_len (numE 0 f).2.2.1 (numE 0 f).2.2.2
  have ob : bytesE (numE 0 f).2.2.1 (numE 0 f).2.2.2 = bt2 f := rfl
  have hR : opR f = if (numE 0 f).2.1 = 0 ∧ (bt2 f).2.1 = 0 ∧ (numE 0 f).1 = 2 then (decO (bt2 f).1).1 else zeroO := rfl
  have hiff := opS_iff f
  have hof : ∀ o, rightO o 16 = true → recF o = f → (numE 0 f).2.1 = 0 ∧ (bt2 f).2.1 = 0 ∧ (numE 0 f).1 = 2 ∧ decO (bt2 f).1 = (o, 0) := fun o h1 h2 => by
    have h3 := numE_putB 2 (by decide) (fieldB (encO o))
    have h4 := (bt2_of (encO o) (by have := encO_len o; omega)).1
    rw [show putB 2 ++ fieldB (encO o) = f from h2] at h3 h4
    rw [h3, h4]
    exact ⟨rfl, rfl, rfl, decO_enc h1⟩
  have z23 := cOp_len zeroO
  unfold SpecV
  refine calls_of Tryd.func88 rfl Tryd.ntmps88 (by simp) ?_
  have hbad : ¬ ((numE 0 f).2.1 = 0 ∧ (bt2 f).2.1 = 0 ∧ (numE 0 f).1 = 2) → opR f = zeroO ∧ (opS f).2 = false := fun hn => by
    refine ⟨by rw [hR, if_neg hn], ?_⟩
    cases h2 : (opS f).2 with
    | false => rfl
    | true =>
      obtain ⟨o, h3, h4⟩ := hiff.1 h2
      obtain ⟨h5, h6, h7, h8⟩ := hof o h3 h4
      exact absurd ⟨h5, h6, h7⟩ hn
  repeat' (first | ((first | refine WL.p rfl ?_ | refine WL.u ?_ | refine WL.g rfl rfl ?_ | refine WL.gu rfl ?_); first | (refine opk 1 rfl ?_; (refine ost_Sk H rfl (r3_Num _ _ H.sat _ _ _ _ hr) rfl ?_; clear H; rintro vk wk hfk Lk ⟨a1, c1, rfl, rfl, rfl, hr1⟩ hle H; simp only [List.cons_append, List.nil_append] at H)) | refine pvQ ?_ | (refine opk 3 rfl ?_; first | (refine ost_cmp rfl rfl rfl rfl (fun hc => ?_) (fun hc => ?_) <;> (simp only [cmpP] at hc; try exact prIQ)) | (refine ost_streqB rfl rfl rfl (fun hc => ?_) (fun hc => ?_) <;> try exact prEQ) | (refine ost_strneB rfl rfl rfl (fun hc => ?_) (fun hc => ?_) <;> try exact prEQ) | (refine ost_streq rfl rfl rfl (fun hc => ?_) (fun hc => ?_) <;> try exact absurd rfl hc) | (refine ost_strne rfl rfl rfl (fun hc => ?_) (fun hc => ?_))) | (refine opk 4 rfl ?_; (refine ost_cmp rfl rfl rfl rfl (fun hc => ?_) (fun hc => ?_) <;> (simp only [cmpP] at hc; try exact prIQ))) | (refine opk 8 rfl ?_; (refine ost_storeW H rfl rfl rfl rfl lQ ixQ lQ okQ ?_; clear H; intro wk H; simp only [List.set_cons_zero, List.set_cons_succ, Nat.reduceAdd] at H)) | (refine opk 9 rfl ?_; (refine ost_allocA H rfl ?_; clear H; intro bk wk H))) | refine Wc.seq ?_ | refine then_n ?_ | refine WL.nil ?_ | refine Wc.region ?_ | refine Wc.block ?_ | refine then_r ?_ | refine then_e ?_ | refine inb_e rfl ?_ | refine inb_o rfl ?_ | refine inb_n ?_ | refine inb_r ?_ | refine Wc.skip ?_ | refine Wc.exit ?_ | refine Wc.ret ?_ | refine Wc.cond_true rfl ?_ | refine Wc.cond_false rfl ?_ | (refine Wc.drawn (id := 7) 14 (by kernel_rfl) ?_) | refine WL.skp rfl rfl ?_ | refine WL.sku rfl ?_ | (refine rgs_nil ?_; intro vs wk hE; replace H := H.ext hE; clear hE) | refine RGs.skp (fun _ => rfl) rfl ?_ | (refine RGs.bq (fun _ => rfl) rfl (by intro vs w hE hP; have H := H.ext hE; first | exact dbQ | fail) (fun hc => ?_) (fun hc => ?_) <;> ((try simp only [cmpP, decide_eq_true_eq, decide_eq_false_iff_not, dcd_iff, dcd_no] at hc); try exact prDQ)) | refine RGs.pq (fun _ => rfl) rfl (by intro vs w hE hP; have H := H.ext hE; first | exact dvQ | fail) ?_)
  obtain ⟨b2, eb2⟩ := H.nameB idx1
  subst eb2
  repeat' (first | ((first | refine WL.p rfl ?_ | refine WL.u ?_ | refine WL.g rfl rfl ?_ | refine WL.gu rfl ?_); first | (refine opk 1 rfl ?_; (refine ost_Sk H rfl (r3_Bytes _ _ H.sat _ _ _ _ hr1 (by omega)) rfl ?_; clear H; rintro vk wk hfk Lk ⟨a2, c2, a3, c3, rfl, rfl, rfl, hr2, hr3⟩ hle H; simp only [List.cons_append, List.nil_append] at H)) | refine pvQ ?_ | (refine opk 3 rfl ?_; first | (refine ost_cmp rfl rfl rfl rfl (fun hc => ?_) (fun hc => ?_) <;> (simp only [cmpP] at hc; try exact prIQ)) | (refine ost_streqB rfl rfl rfl (fun hc => ?_) (fun hc => ?_) <;> try exact prEQ) | (refine ost_strneB rfl rfl rfl (fun hc => ?_) (fun hc => ?_) <;> try exact prEQ) | (refine ost_streq rfl rfl rfl (fun hc => ?_) (fun hc => ?_) <;> try exact absurd rfl hc) | (refine ost_strne rfl rfl rfl (fun hc => ?_) (fun hc => ?_))) | (refine opk 4 rfl ?_; (refine ost_cmp rfl rfl rfl rfl (fun hc => ?_) (fun hc => ?_) <;> (simp only [cmpP] at hc; try exact prIQ))) | (refine opk 8 rfl ?_; (refine ost_storeW H rfl rfl rfl rfl lQ ixQ lQ okQ ?_; clear H; intro wk H; simp only [List.set_cons_zero, List.set_cons_succ, Nat.reduceAdd] at H)) | (refine opk 9 rfl ?_; (refine ost_allocA H rfl ?_; clear H; intro bk wk H))) | refine Wc.seq ?_ | refine then_n ?_ | refine WL.nil ?_ | refine Wc.region ?_ | refine Wc.block ?_ | refine then_r ?_ | refine then_e ?_ | refine inb_e rfl ?_ | refine inb_o rfl ?_ | refine inb_n ?_ | refine inb_r ?_ | refine Wc.skip ?_ | refine Wc.exit ?_ | refine Wc.ret ?_ | refine Wc.cond_true rfl ?_ | refine Wc.cond_false rfl ?_ | (refine Wc.drawn (id := 7) 14 (by kernel_rfl) ?_) | refine WL.skp rfl rfl ?_ | refine WL.sku rfl ?_ | (refine rgs_nil ?_; intro vs wk hE; replace H := H.ext hE; clear hE) | refine RGs.skp (fun _ => rfl) rfl ?_ | (refine RGs.bq (fun _ => rfl) rfl (by intro vs w hE hP; have H := H.ext hE; first | exact dbQ | fail) (fun hc => ?_) (fun hc => ?_) <;> ((try simp only [cmpP, decide_eq_true_eq, decide_eq_false_iff_not, dcd_iff, dcd_no] at hc); try exact prDQ)) | refine RGs.pq (fun _ => rfl) rfl (by intro vs w hE hP; have H := H.ext hE; first | exact dvQ | fail) ?_)
  · refine fn_ret2 (v2 := .bool _) rfl (rv_cellA rfl rfl H.bI lQ) rfl ⟨?_, H.fr⟩
    obtain ⟨q1, q2⟩ := hbad fun h => hc h.1
    rw [q1, q2]; rfl
  · refine fn_ret2 (v2 := .bool _) rfl (rv_cellA rfl rfl H.bI lQ) rfl ⟨?_, H.fr⟩
    obtain ⟨q1, q2⟩ := hbad fun h => hc (by rw [ob]; exact h.2.1)
    rw [q1, q2]; rfl
  · refine fn_ret2 (v2 := .bool _) rfl (rv_cellA rfl rfl H.bI lQ) rfl ⟨?_, H.fr⟩
    obtain ⟨q1, q2⟩ := hbad fun h => hc (by rw [h.2.2]; rfl)
    rw [q1, q2]; rfl
  rw [hR, if_pos ⟨Classical.not_not.1 ‹¬ (numE 0 f).2.1 ≠ 0›, Classical.not_not.1 ‹¬ (bytesE (numE 0 f).2.2.1 (numE 0 f).2.2.2).2.1 ≠ 0›, by omega⟩]
  have hDec := r6_Decode hfk a3 c3 (bytesE (numE 0 f).2.2.1 (numE 0 f).2.2.2).1
  have hD := decO_spec (bt2 f).1
  have hrc := r12_record (decO (bt2 f).1).1
  rw [ob] at hDec hr3 hK
  have hof : ∀ o, rightO o 16 = true → recF o = f → decO (bt2 f).1 = (o, 0) := fun o h1 h2 => (hof o h1 h2).2.2.2
  have lx := cOp_len (decO (bt2 f).1).1
  generalize decO (bt2 f).1 = D at hDec hD hrc hof lx ⊢
  obtain ⟨x, e⟩ := D
  dsimp only at hDec hD hrc lx ⊢
  clear hR hbad
  rcases hD with ⟨rfl, h2, h3⟩ | ⟨rfl, rfl, h3⟩
  · rw [show recO x = (recF x, true) by unfold recO; rw [if_pos h2]] at hrc
    by_cases hfx : recF x = f
    · rw [hiff.2 ⟨x, h2, hfx⟩]
      repeat' (first | ((first | refine WL.p rfl ?_ | refine WL.u ?_ | refine WL.g rfl rfl ?_ | refine WL.gu rfl ?_); first | (refine opk 1 rfl ?_; first | (refine ost_V H rfl (hDec _ H.sat hr3 (by omega)) rfl ?_; clear H; intro wk H) | (refine ost_C H rfl (hrc _ _ (sat_full _)) rfl ?_; clear H; rintro vk wk hfk Lk ⟨a5, c5, rfl, rfl⟩ H; simp only [List.cons_append, List.nil_append] at H)) | refine pvQ ?_ | (refine opk 3 rfl ?_; first | (refine ost_cmp rfl rfl rfl rfl (fun hc => ?_) (fun hc => ?_) <;> (simp only [cmpP] at hc; try exact prIQ)) | (refine ost_streqB rfl rfl rfl (fun hc => ?_) (fun hc => ?_) <;> try exact prEQ) | (refine ost_strneB rfl rfl rfl (fun hc => ?_) (fun hc => ?_) <;> try exact prEQ) | (refine ost_streq rfl rfl rfl (fun hc => ?_) (fun hc => ?_) <;> try exact absurd rfl hc) | (refine ost_strne rfl rfl rfl (fun hc => ?_) (fun hc => ?_))) | (refine opk 4 rfl ?_; (refine ost_cmp rfl rfl rfl rfl (fun hc => ?_) (fun hc => ?_) <;> (simp only [cmpP] at hc; try exact prIQ))) | (refine opk 8 rfl ?_; (refine ost_storeW H rfl rfl rfl rfl lQ ixQ lQ okQ ?_; clear H; intro wk H; simp only [List.set_cons_zero, List.set_cons_succ, Nat.reduceAdd] at H)) | (refine opk 9 rfl ?_; (refine ost_allocA H rfl ?_; clear H; intro bk wk H))) | refine Wc.seq ?_ | refine then_n ?_ | refine WL.nil ?_ | refine Wc.region ?_ | refine Wc.block ?_ | refine then_r ?_ | refine then_e ?_ | refine inb_e rfl ?_ | refine inb_o rfl ?_ | refine inb_n ?_ | refine inb_r ?_ | refine Wc.skip ?_ | refine Wc.exit ?_ | refine Wc.ret ?_ | refine Wc.cond_true rfl ?_ | refine Wc.cond_false rfl ?_ | refine WL.skp rfl rfl ?_ | refine WL.sku rfl ?_ | (refine Wc.drawM (id := 7) 14 [(13, [.blk b2 _], fun _ L' => L' = [.blk b2 (.cells (cOp x).toArray 67 (0, 0))])] [own8 _ _ _, .blk _ _, .blk _ _, .blk _ _] [13] H (by kernel_rfl) rfl (by kernel_rfl) (by simp only [inpL, List.nil_append, List.cons_append, List.append_nil]; first | exact List.Perm.refl _ | exact List.Perm.swap _ _ _ | exact (List.Perm.swap _ _ _).trans ((List.Perm.swap _ _ _).cons _) | exact ((List.Perm.swap _ _ _).cons _) | exact ((List.Perm.swap _ _ _).cons _).trans (List.Perm.swap _ _ _)) ?_) | (refine rgm_nil ?_; intro vs wk outs HM hR; obtain ⟨_, e9_13, -⟩ := hR 13 _ rfl; (try dsimp only at e9_13); simp only [outsL, e9_13, List.cons_append, List.nil_append, List.append_nil] at HM; replace H := HM; clear HM hR) | refine RGm.skp (fun _ => rfl) rfl ?_ | (refine RGm.bq (fun _ => rfl) rfl (by intro vs w TT hP H; simp only [List.cons_append, List.nil_append] at H; first | exact dbQ | fail) (fun hc => ?_) (fun hc => ?_) <;> ((try simp only [cmpP, decide_eq_true_eq, decide_eq_false_iff_not, dcd_iff, dcd_no] at hc); try exact prDQ)) | refine RGm.pq (fun _ => rfl) rfl (by intro vs w TT hP H; simp only [List.cons_append, List.nil_append] at H; first | (refine opk 6 rfl ?_; first | (refine ost_toStrN (xs := recF x) rfl rfl (by first | rfl | (simp; omega)) (H.own8rd (by (exact ixQ))) ?_; exact ⟨Fr.refl _ _, rfl⟩) | (refine ost_toStrN (xs := f) rfl rfl (by first | rfl | (simp; omega)) (hr.full H) ?_; exact ⟨Fr.refl _ _, rfl⟩)) | exact dvQ | fail) ?_ | refine RGm.mq (fun _ => rfl) rfl (by intro vs w TT hP H; simp only [List.cons_append, List.nil_append] at H; first | (refine ost_storeW H rfl rfl rfl rfl lQ (by (exact ixQ)) lQ (by first | assumption | exact cV_one _ | exact one_set (cV_one _) rfl | exact allOne_of rfl) ?_; intro wk H2; simp only [List.set_cons_zero, List.set_cons_succ, Nat.reduceAdd] at H2; exact ⟨[_], rfl, H2⟩) | fail) ?_ | refine RGm.mu rfl (by intro vs w TT hP H; simp only [List.cons_append, List.nil_append] at H; first | (refine ost_storeW H rfl rfl rfl rfl lQ (by (exact ixQ)) lQ (by first | assumption | exact cV_one _ | exact one_set (cV_one _) rfl | exact allOne_of rfl) ?_; intro wk H2; simp only [List.set_cons_zero, List.set_cons_succ, Nat.reduceAdd] at H2; exact ⟨[_], rfl, H2⟩) | fail) ?_)
      all_goals exact fn_ret2 (v2 := .bool _) rfl (rv_cellA rfl rfl H.bI lQ) rfl ⟨rfl, H.fr⟩
    · have hq : (opS f).2 = false := by
        cases h4 : (opS f).2 with
        | false => rfl
        | true =>
          obtain ⟨o, h5, h6⟩ := hiff.1 h4
          have := hof o h5 h6
          injection this with h7 _
          rw [h7] at hfx; exact absurd h6 hfx
      rw [hq]
      repeat' (first | ((first | refine WL.p rfl ?_ | refine WL.u ?_ | refine WL.g rfl rfl ?_ | refine WL.gu rfl ?_); first | (refine opk 1 rfl ?_; first | (refine ost_V H rfl (hDec _ H.sat hr3 (by omega)) rfl ?_; clear H; intro wk H) | (refine ost_C H rfl (hrc _ _ (sat_full _)) rfl ?_; clear H; rintro vk wk hfk Lk ⟨a5, c5, rfl, rfl⟩ H; simp only [List.cons_append, List.nil_append] at H)) | refine pvQ ?_ | (refine opk 3 rfl ?_; first | (refine ost_cmp rfl rfl rfl rfl (fun hc => ?_) (fun hc => ?_) <;> (simp only [cmpP] at hc; try exact prIQ)) | (refine ost_streqB rfl rfl rfl (fun hc => ?_) (fun hc => ?_) <;> try exact prEQ) | (refine ost_strneB rfl rfl rfl (fun hc => ?_) (fun hc => ?_) <;> try exact prEQ) | (refine ost_streq rfl rfl rfl (fun hc => ?_) (fun hc => ?_) <;> try exact absurd rfl hc) | (refine ost_strne rfl rfl rfl (fun hc => ?_) (fun hc => ?_))) | (refine opk 4 rfl ?_; (refine ost_cmp rfl rfl rfl rfl (fun hc => ?_) (fun hc => ?_) <;> (simp only [cmpP] at hc; try exact prIQ))) | (refine opk 8 rfl ?_; (refine ost_storeW H rfl rfl rfl rfl lQ ixQ lQ okQ ?_; clear H; intro wk H; simp only [List.set_cons_zero, List.set_cons_succ, Nat.reduceAdd] at H)) | (refine opk 9 rfl ?_; (refine ost_allocA H rfl ?_; clear H; intro bk wk H))) | refine Wc.seq ?_ | refine then_n ?_ | refine WL.nil ?_ | refine Wc.region ?_ | refine Wc.block ?_ | refine then_r ?_ | refine then_e ?_ | refine inb_e rfl ?_ | refine inb_o rfl ?_ | refine inb_n ?_ | refine inb_r ?_ | refine Wc.skip ?_ | refine Wc.exit ?_ | refine Wc.ret ?_ | refine Wc.cond_true rfl ?_ | refine Wc.cond_false rfl ?_ | refine WL.skp rfl rfl ?_ | refine WL.sku rfl ?_ | (refine Wc.drawM (id := 7) 14 [(13, [.blk b2 _], fun _ L' => L' = [.blk b2 (.cells (cOp x).toArray 67 (0, 0))])] [own8 _ _ _, .blk _ _, .blk _ _, .blk _ _] [13] H (by kernel_rfl) rfl (by kernel_rfl) (by simp only [inpL, List.nil_append, List.cons_append, List.append_nil]; first | exact List.Perm.refl _ | exact List.Perm.swap _ _ _ | exact (List.Perm.swap _ _ _).trans ((List.Perm.swap _ _ _).cons _) | exact ((List.Perm.swap _ _ _).cons _) | exact ((List.Perm.swap _ _ _).cons _).trans (List.Perm.swap _ _ _)) ?_) | (refine rgm_nil ?_; intro vs wk outs HM hR; obtain ⟨_, e9_13, -⟩ := hR 13 _ rfl; (try dsimp only at e9_13); simp only [outsL, e9_13, List.cons_append, List.nil_append, List.append_nil] at HM; replace H := HM; clear HM hR) | refine RGm.skp (fun _ => rfl) rfl ?_ | (refine RGm.bq (fun _ => rfl) rfl (by intro vs w TT hP H; simp only [List.cons_append, List.nil_append] at H; first | exact dbQ | fail) (fun hc => ?_) (fun hc => ?_) <;> ((try simp only [cmpP, decide_eq_true_eq, decide_eq_false_iff_not, dcd_iff, dcd_no] at hc); try exact prDQ)) | refine RGm.pq (fun _ => rfl) rfl (by intro vs w TT hP H; simp only [List.cons_append, List.nil_append] at H; first | (refine opk 6 rfl ?_; first | (refine ost_toStrN (xs := recF x) rfl rfl (by first | rfl | (simp; omega)) (H.own8rd (by (exact ixQ))) ?_; exact ⟨Fr.refl _ _, rfl⟩) | (refine ost_toStrN (xs := f) rfl rfl (by first | rfl | (simp; omega)) (hr.full H) ?_; exact ⟨Fr.refl _ _, rfl⟩)) | exact dvQ | fail) ?_ | refine RGm.mq (fun _ => rfl) rfl (by intro vs w TT hP H; simp only [List.cons_append, List.nil_append] at H; first | (refine ost_storeW H rfl rfl rfl rfl lQ (by (exact ixQ)) lQ (by first | assumption | exact cV_one _ | exact one_set (cV_one _) rfl | exact allOne_of rfl) ?_; intro wk H2; simp only [List.set_cons_zero, List.set_cons_succ, Nat.reduceAdd] at H2; exact ⟨[_], rfl, H2⟩) | fail) ?_ | refine RGm.mu rfl (by intro vs w TT hP H; simp only [List.cons_append, List.nil_append] at H; first | (refine ost_storeW H rfl rfl rfl rfl lQ (by (exact ixQ)) lQ (by first | assumption | exact cV_one _ | exact one_set (cV_one _) rfl | exact allOne_of rfl) ?_; intro wk H2; simp only [List.set_cons_zero, List.set_cons_succ, Nat.reduceAdd] at H2; exact ⟨[_], rfl, H2⟩) | fail) ?_)
      all_goals exact fn_ret2 (v2 := .bool _) rfl (rv_cellA rfl rfl H.bI lQ) rfl ⟨rfl, H.fr⟩
  · have hq : (opS f).2 = false := by
      cases h4 : (opS f).2 with
      | false => rfl
      | true =>
        obtain ⟨o, h5, h6⟩ := hiff.1 h4
        have := hof o h5 h6
        injection this with _ h7
        exact absurd h7 (by decide)
    rw [hq]
    rw [show recO zeroO = ([], false) from by kernel_rfl] at hrc
    repeat' (first | ((first | refine WL.p rfl ?_ | refine WL.u ?_ | refine WL.g rfl rfl ?_ | refine WL.gu rfl ?_); first | (refine opk 1 rfl ?_; first | (refine ost_V H rfl (hDec _ H.sat hr3 (by omega)) rfl ?_; clear H; intro wk H) | (refine ost_C H rfl (hrc _ _ (sat_full _)) rfl ?_; clear H; rintro vk wk hfk Lk ⟨a5, c5, rfl, rfl⟩ H; simp only [List.cons_append, List.nil_append] at H)) | refine pvQ ?_ | (refine opk 3 rfl ?_; first | (refine ost_cmp rfl rfl rfl rfl (fun hc => ?_) (fun hc => ?_) <;> (simp only [cmpP] at hc; try exact prIQ)) | (refine ost_streqB rfl rfl rfl (fun hc => ?_) (fun hc => ?_) <;> try exact prEQ) | (refine ost_strneB rfl rfl rfl (fun hc => ?_) (fun hc => ?_) <;> try exact prEQ) | (refine ost_streq rfl rfl rfl (fun hc => ?_) (fun hc => ?_) <;> try exact absurd rfl hc) | (refine ost_strne rfl rfl rfl (fun hc => ?_) (fun hc => ?_))) | (refine opk 4 rfl ?_; (refine ost_cmp rfl rfl rfl rfl (fun hc => ?_) (fun hc => ?_) <;> (simp only [cmpP] at hc; try exact prIQ))) | (refine opk 8 rfl ?_; (refine ost_storeW H rfl rfl rfl rfl lQ ixQ lQ okQ ?_; clear H; intro wk H; simp only [List.set_cons_zero, List.set_cons_succ, Nat.reduceAdd] at H)) | (refine opk 9 rfl ?_; (refine ost_allocA H rfl ?_; clear H; intro bk wk H))) | refine Wc.seq ?_ | refine then_n ?_ | refine WL.nil ?_ | refine Wc.region ?_ | refine Wc.block ?_ | refine then_r ?_ | refine then_e ?_ | refine inb_e rfl ?_ | refine inb_o rfl ?_ | refine inb_n ?_ | refine inb_r ?_ | refine Wc.skip ?_ | refine Wc.exit ?_ | refine Wc.ret ?_ | refine Wc.cond_true rfl ?_ | refine Wc.cond_false rfl ?_ | refine WL.skp rfl rfl ?_ | refine WL.sku rfl ?_ | (refine Wc.drawM (id := 7) 14 [(13, [.blk b2 _], fun _ L' => L' = [.blk b2 (.cells (cOp zeroO).toArray 67 (0, 0))])] [own8 _ _ _, .blk _ _, .blk _ _, .blk _ _] [13] H (by kernel_rfl) rfl (by kernel_rfl) (by simp only [inpL, List.nil_append, List.cons_append, List.append_nil]; first | exact List.Perm.refl _ | exact List.Perm.swap _ _ _ | exact (List.Perm.swap _ _ _).trans ((List.Perm.swap _ _ _).cons _) | exact ((List.Perm.swap _ _ _).cons _) | exact ((List.Perm.swap _ _ _).cons _).trans (List.Perm.swap _ _ _)) ?_) | (refine rgm_nil ?_; intro vs wk outs HM hR; obtain ⟨_, e9_13, -⟩ := hR 13 _ rfl; (try dsimp only at e9_13); simp only [outsL, e9_13, List.cons_append, List.nil_append, List.append_nil] at HM; replace H := HM; clear HM hR) | refine RGm.skp (fun _ => rfl) rfl ?_ | (refine RGm.bq (fun _ => rfl) rfl (by intro vs w TT hP H; simp only [List.cons_append, List.nil_append] at H; first | exact dbQ | fail) (fun hc => ?_) (fun hc => ?_) <;> ((try simp only [cmpP, decide_eq_true_eq, decide_eq_false_iff_not, dcd_iff, dcd_no] at hc); try exact prDQ)) | refine RGm.pq (fun _ => rfl) rfl (by intro vs w TT hP H; simp only [List.cons_append, List.nil_append] at H; first | exact dvQ | fail) ?_ | refine RGm.mq (fun _ => rfl) rfl (by intro vs w TT hP H; simp only [List.cons_append, List.nil_append] at H; first | (refine ost_storeW H rfl rfl rfl rfl lQ (by (exact ixQ)) lQ (by first | assumption | exact cV_one _ | exact one_set (cV_one _) rfl | exact allOne_of rfl) ?_; intro wk H2; simp only [List.set_cons_zero, List.set_cons_succ, Nat.reduceAdd] at H2; exact ⟨[_], rfl, H2⟩) | fail) ?_ | refine RGm.mu rfl (by intro vs w TT hP H; simp only [List.cons_append, List.nil_append] at H; first | (refine ost_storeW H rfl rfl rfl rfl lQ (by (exact ixQ)) lQ (by first | assumption | exact cV_one _ | exact one_set (cV_one _) rfl | exact allOne_of rfl) ?_; intro wk H2; simp only [List.set_cons_zero, List.set_cons_succ, Nat.reduceAdd] at H2; exact ⟨[_], rfl, H2⟩) | fail) ?_)
    all_goals exact fn_ret2 (v2 := .bool _) rfl (rv_cellA rfl rfl H.bI lQ) rfl ⟨rfl, H.fr⟩
end Go.Tg

set_option linter.unusedVariables false
set_option linter.unusedSimpArgs false
set_option maxRecDepth 100000
set_option maxHeartbeats 4000000
namespace Go.Tg
open Go Go.Proofs
def FrR (h : FH) (vs : List Value) (l : List (List UInt8)) : Prop := vs.length = l.length ∧ ∀ i (h1 : i < vs.length) (h2 : i < l.length), BSv h vs[i] l[i]
theorem FrR.mono {h h' : FH} {vs : List Value} {l : List (List UInt8)} (r : FrR h vs l) (hl : FLe h h') : FrR h' vs l := ⟨r.1, fun i h1 h2 => (r.2 i h1 h2).mono hl⟩
theorem FrR.nil (h : FH) : FrR h [] [] := ⟨rfl, fun i h1 _ => absurd h1 (by simp)⟩
theorem FrR.snoc {h : FH} {vs : List Value} {l : List (List UInt8)} (r : FrR h vs l) {v : Value} {x : List UInt8} (hx : BSv h v x) : FrR h (vs ++ [v]) (l ++ [x]) := by
  refine ⟨by simp [r.1], fun i h1 h2 => ?_⟩
  by_cases hi : i < vs.length
  · rw [List.getElem_append_left hi, List.getElem_append_left (by rw [← r.1]; exact hi)]
    exact r.2 i hi _
  · have e1 : i = vs.length := by simp at h1; omega
    subst e1
    have h3 := r.1
    rw [List.getElem_append_right (Nat.le_refl _), List.getElem_append_right (by omega)]
    simp only [Nat.sub_self, List.getElem_cons_zero, h3]
    exact hx
def oneV (v : Value) : List Value := [v]
theorem rows_oneV (l : List Value) : ∀ r, r ∈ l.map oneV → r.length = 1 := by simp [oneV]
theorem r10_Firstn (n : Nat) (h0 : FH) (a : Option Addr) (c : Nat) (b : List UInt8) (w : World) (hs : Sat h0 w) (hn : n = b.length) (hr : BS h0 a c b) (hb : b.length ≤ 1000000000) :
    Spec Tryd.prog 73 #[.slice a n c] w [] h0 (fun v h' L' => ∃ a' c', v = .tuple #[.slice a' (firstF b).1.length c', .int .i64 (firstF b).2.1, .int .i64 (firstF b).2.2] ∧ L' = [] ∧ BS h' a' c' (firstF b).1) := by
  subst hn
  exact (r10_First h0 a c b w hs hr hb).mono fun v h' L' ⟨a', c', h1, h2, h3, h4⟩ => ⟨a', c', h1, h3, by rw [h2]; exact h4⟩
theorem r10_Scan (h0 : FH) (a : Option Addr) (c : Nat) (b : List UInt8) (w : World) (hs : Sat h0 w) (hr : BS h0 a c b) (hb : b.length ≤ 1000000) :
    Spec Tryd.prog 86 #[.slice a b.length c] w [] h0 (fun v h' L' => ∃ (vs : List Value) (a' : Option Addr) (c' : Nat) (k : Int), v = .tuple #[.slice a' (vs.map oneV).length c', .int .i64 k] ∧ L' = [] ∧ Sl h' 1 a' c' (vs.map oneV) ∧ FrR h' vs (frames b)) := by
  have H := St.start hs
  unfold Spec
  refine calls_of Tryd.func86 rfl Tryd.ntmps86 (by simp) ?_
  repeat' (first | ((first | refine WL.p rfl ?_ | refine WL.u ?_); first | refine pvQ ?_ | (refine opk 3 rfl ?_; (refine ost_cmp rfl rfl rfl rfl (fun hc => ?_) (fun hc => ?_) <;> (simp only [cmpP] at hc; try exact prIQ))) | (refine opk 4 rfl ?_; (refine ost_cmp rfl rfl rfl rfl (fun hc => ?_) (fun hc => ?_) <;> (simp only [cmpP] at hc; try exact prIQ))) | (refine opk 9 rfl ?_; (refine ost_build1 H rfl rfl rfl evQ lsQ rfl ?_; clear H; intro bk wk H))) | refine Wc.seq ?_ | refine then_n ?_ | refine WL.nil ?_ | refine Wc.region ?_ | refine Wc.block ?_ | refine then_r ?_ | refine then_e ?_ | refine inb_e rfl ?_ | refine inb_o rfl ?_ | refine inb_n ?_ | refine inb_r ?_ | refine Wc.skip ?_ | refine Wc.exit ?_ | refine Wc.ret ?_ | refine Wc.cond_true rfl ?_ | refine Wc.cond_false rfl ?_)
  replace H : St w [] h0 h0 [ownR (.slice none (([] : List Value).map oneV).length 0) 48 1 (([] : List Value).map oneV)] w := H.nilOwn 48 1
  refine Wc.loopE (fun s0 m s w' => ∃ (h : FH) (k : Nat) (vs : List Value) (l : List (List UInt8)) (a1 : Option Addr) (c1 : Nat), m = b.length - k ∧ k ≤ b.length ∧ FLe h0 h ∧ FrR h vs l ∧ frames b = l ++ frames (b.drop k) ∧ l.length ≤ k ∧ Agree [2, 3, 4, 5, 6, 7, 8, 9, 10, 11, 12, 13, 14, 15, 16, 17, 18, 19, 20, 21, 22, 23, 24, 25, 26, 27, 28, 29, 30, 31] s s0 ∧ s 5 = .int .i64 k ∧ s 4 = .slice a1 (vs.map oneV).length c1 ∧
    St w [] h0 h [ownR (.slice a1 (vs.map oneV).length c1) 48 1 (vs.map oneV)] w') b.length ⟨h0, 0, [], [], none, 0, rfl, by omega, FLe.refl _, FrR.nil _, rfl, Nat.le_refl _, Agree.refl _ _, rfl, rfl, H⟩ ?_
  clear H
  rintro m s w' ⟨h, k, vs, l, a1, c1, rfl, hk, hle0, hF, hfr, hlk, hA, e1, e2, H⟩
  obtain ⟨j, rfl⟩ := hA.env2 e1 e2
  clear hA e1 e2
  have hv := hF.1
  have hvl : (vs.map oneV).length = vs.length := List.length_map ..
  have hrk := hr.mono hle0
  by_cases hlt : k < b.length
  · have hFn := r10_Firstn (b.length - k)
    have hFn := fun h a c w hs hr => hFn h a c (b.drop k) w hs (by rw [List.length_drop]) hr (by rw [List.length_drop]; omega)
    have q1 := @frames_no (b.drop k)
    have q2 := @frames_ok (b.drop k)
    have hok := @firstF_ok (b.drop k)
    have hps := @firstF_pos (b.drop k)
    generalize firstF (b.drop k) = F at hFn q1 q2 hok hps
    obtain ⟨f, k', e⟩ := F
    dsimp only at hFn q1 q2 hok hps
    by_cases he : e = 0
    · subst he
      obtain ⟨hk1, hk2, hk3⟩ := hok rfl
      rw [List.length_drop] at hk3
      have hps := hps rfl
      have q2 := q2 rfl
      rw [List.drop_drop] at q2
      rw [q2] at hfr
      repeat' (first | ((first | refine WL.p rfl ?_ | refine WL.u ?_); first | (refine opk 1 rfl ?_; first | (refine ost_Sk H rfl (hFn _ _ _ _ H.sat (hrk.drop (n := k) hk)) rfl ?_; clear H; rintro vk wk hfk Lk ⟨a7, c7, rfl, rfl, hr7⟩ hle H; simp only [List.cons_append, List.nil_append] at H) | (refine ost_appR (rows := vs.map oneV) (row := [.slice a7 f.length c7]) H rfl rfl rfl (by (exact ixQ)) (by (exact ixQ)) (by rfl) (by first | simp; done | exact Nat.succ_pos _) rfl (allOne_of rfl) rfl (by omega) ?_; clear H; intro aa ca wk H; simp only [List.set_cons_zero, List.set_cons_succ] at H)) | (refine opk 9 rfl ?_; (refine ost_buildR (rows := [[.slice a7 f.length c7]]) H rfl (by decide) rfl (by rfl) (evP1 vxQ) (.cons rfl .nil) rfl (fun r hr => by rw [List.mem_singleton.1 hr]; rfl) ?_; clear H; intro bk wk H)) | refine pvQ ?_ | (refine opk 3 rfl ?_; (refine ost_cmp rfl rfl rfl rfl (fun hc => ?_) (fun hc => ?_) <;> (simp only [cmpP] at hc; try exact prIQ))) | (refine opk 4 rfl ?_; (refine ost_cmp rfl rfl rfl rfl (fun hc => ?_) (fun hc => ?_) <;> (simp only [cmpP] at hc; try exact prIQ))) | (refine opk 9 rfl ?_; (refine ost_build1 H rfl rfl rfl evQ lsQ rfl ?_; clear H; intro bk wk H))) | refine Wc.seq ?_ | refine then_n ?_ | refine WL.nil ?_ | refine Wc.region ?_ | refine Wc.block ?_ | refine then_r ?_ | refine then_e ?_ | refine inb_e rfl ?_ | refine inb_o rfl ?_ | refine inb_n ?_ | refine inb_r ?_ | refine Wc.skip ?_ | refine Wc.exit ?_ | refine Wc.ret ?_ | refine Wc.cond_true rfl ?_ | refine Wc.cond_false rfl ?_)
      have hm : (vs ++ [Value.slice a7 f.length c7]).map oneV = vs.map oneV ++ [[Value.slice a7 f.length c7]] := by rw [List.map_append]; rfl
      refine ⟨b.length - (k + k'), by omega, hfk, k + k', vs ++ [Value.slice a7 f.length c7], l ++ [f], aa, ca, rfl, by omega, hle0.trans hle, (hF.mono hle).snoc ⟨a7, c7, rfl, hr7⟩, by rw [hfr, List.append_assoc]; rfl, by rw [List.length_append]; simp; omega, by (repeat' (first | exact Agree.refl _ _ | exact Agree.havoc | refine Agree.upd rfl ?_ | refine Agree.hav2 rfl ?_)), rfl, by rw [hm]; rfl, ?_⟩
      rw [hm]; exact H.picks [1] rfl (by decide)
    · have q1 := q1 (by omega)
      rw [q1, List.append_nil] at hfr
      obtain ⟨a8, c8, h8, e8, hle8, hL8, H9⟩ := H.freezeR (rows_oneV vs)
      injection e8 with e81 e82 e83
      subst e81; subst e83
      clear H
      have H := H9
      clear H9
      repeat' (first | ((first | refine WL.p rfl ?_ | refine WL.u ?_); first | (refine opk 1 rfl ?_; (refine ost_Sk H rfl (hFn _ _ _ _ H.sat ((hrk.mono hle8).drop (n := k) hk)) rfl ?_; clear H; rintro vk wk hfk Lk ⟨a7, c7, rfl, rfl, hr7⟩ hle H; simp only [List.cons_append, List.nil_append] at H)) | refine pvQ ?_ | (refine opk 3 rfl ?_; (refine ost_cmp rfl rfl rfl rfl (fun hc => ?_) (fun hc => ?_) <;> (simp only [cmpP] at hc; try exact prIQ))) | (refine opk 4 rfl ?_; (refine ost_cmp rfl rfl rfl rfl (fun hc => ?_) (fun hc => ?_) <;> (simp only [cmpP] at hc; try exact prIQ))) | (refine opk 9 rfl ?_; (refine ost_build1 H rfl rfl rfl evQ lsQ rfl ?_; clear H; intro bk wk H))) | refine Wc.seq ?_ | refine then_n ?_ | refine WL.nil ?_ | refine Wc.region ?_ | refine Wc.block ?_ | refine then_r ?_ | refine then_e ?_ | refine inb_e rfl ?_ | refine inb_o rfl ?_ | refine inb_n ?_ | refine inb_r ?_ | refine Wc.skip ?_ | refine Wc.exit ?_ | refine Wc.ret ?_ | refine Wc.cond_true rfl ?_ | refine Wc.cond_false rfl ?_)
      exact fn_ret2 (v1 := .slice _ _ _) (v2 := .int _ _) rfl rfl rfl ⟨_, _, H.pick0, vs, _, _, _, rfl, rfl, hL8.mono hle, by rw [hfr]; exact (hF.mono hle8).mono hle⟩
  · obtain rfl : k = b.length := by omega
    rw [List.drop_length, frames_nil, List.append_nil] at hfr
    obtain ⟨a8, c8, h8, e8, hle8, hL8, H⟩ := H.freezeR (rows_oneV vs)
    injection e8 with e81 e82 e83
    subst e81; subst e83
    repeat' (first | ((first | refine WL.p rfl ?_ | refine WL.u ?_); first | refine pvQ ?_ | (refine opk 3 rfl ?_; (refine ost_cmp rfl rfl rfl rfl (fun hc => ?_) (fun hc => ?_) <;> (simp only [cmpP] at hc; try exact prIQ))) | (refine opk 4 rfl ?_; (refine ost_cmp rfl rfl rfl rfl (fun hc => ?_) (fun hc => ?_) <;> (simp only [cmpP] at hc; try exact prIQ))) | (refine opk 9 rfl ?_; (refine ost_build1 H rfl rfl rfl evQ lsQ rfl ?_; clear H; intro bk wk H))) | refine Wc.seq ?_ | refine then_n ?_ | refine WL.nil ?_ | refine Wc.region ?_ | refine Wc.block ?_ | refine then_r ?_ | refine then_e ?_ | refine inb_e rfl ?_ | refine inb_o rfl ?_ | refine inb_n ?_ | refine inb_r ?_ | refine Wc.skip ?_ | refine Wc.exit ?_ | refine Wc.ret ?_ | refine Wc.cond_true rfl ?_ | refine Wc.cond_false rfl ?_)
    exact fn_ret2 (v1 := .slice _ _ _) (v2 := .int _ _) rfl rfl rfl ⟨_, _, H.pick0, vs, _, _, _, rfl, rfl, hL8, by rw [hfr]; exact hF.mono hle8⟩
end Go.Tg

set_option linter.unusedVariables false
set_option linter.unusedSimpArgs false
set_option maxRecDepth 100000
set_option maxHeartbeats 8000000
namespace Go.Tg
open Go Go.Proofs
theorem framesL_mem : ∀ (n : Nat) (b : List UInt8), (framesL n b).length ≤ n ∧ ∀ f, f ∈ framesL n b → f.length ≤ 4096
  | 0, b => ⟨Nat.le_refl _, fun f h => (List.not_mem_nil h).elim⟩
  | n + 1, b => by
    unfold framesL
    split
    · rename_i h
      obtain ⟨h1, h2⟩ := framesL_mem n (b.drop (firstF b).2.1)
      refine ⟨by rw [List.length_cons]; omega, fun f hf => ?_⟩
      rcases List.mem_cons.1 hf with rfl | hf
      · exact (firstF_ok h).2.1
      · exact h2 f hf
    · exact ⟨Nat.zero_le _, fun f h => (List.not_mem_nil h).elim⟩
theorem frames_mem (b : List UInt8) : (frames b).length ≤ b.length ∧ ∀ f, f ∈ frames b → f.length ≤ 4096 := framesL_mem _ b
noncomputable def segP (fs : List (List UInt8)) (ops : List OpT) (ats : List Nat) (sld : Bool) (used : Nat) (i : Nat) : List OpT × List Nat × Bool × Nat :=
  if sld = true then (ops, ats, true, used) else (ops ++ (segR (fs.drop i) ops.length used).1, ats ++ (segR (fs.drop i) ops.length used).2.1, (segR (fs.drop i) ops.length used).2.2)
theorem segP_sld (fs : List (List UInt8)) (ops : List OpT) (ats : List Nat) (used i : Nat) : segP fs ops ats true used i = (ops, ats, true, used) := rfl
theorem segP_end {fs : List (List UInt8)} {ops : List OpT} {ats : List Nat} {used i : Nat} (h : fs.length ≤ i) : segP fs ops ats false used i = (ops, ats, false, used) := by
  unfold segP
  rw [if_neg (by simp), List.drop_eq_nil_of_le h]
  simp [segR]
theorem segP_op {fs : List (List UInt8)} {ops : List OpT} {ats : List Nat} {used i : Nat} {o : OpT} (h : i < fs.length) (ho : isOp fs[i] = some o) : segP fs ops ats false used i = segP fs (ops ++ [o]) (ats ++ [used]) false (used + (wrapB fs[i]).length) (i + 1) := by
  unfold segP
  rw [if_neg (by simp), if_neg (by simp), List.drop_eq_getElem_cons h, segR_op ho, List.length_append]
  simp
theorem segP_foot {fs : List (List UInt8)} {ops : List OpT} {ats : List Nat} {used i : Nat} (h : i < fs.length) (ho : isOp fs[i] = none) (hf : fs[i] = numF 3 ops.length) : segP fs ops ats false used i = segP fs ops ats true (used + (wrapB fs[i]).length) (i + 1) := by
  unfold segP
  rw [if_neg (by simp), if_pos rfl, List.drop_eq_getElem_cons h, segR_foot ho hf]
  simp
theorem segP_no {fs : List (List UInt8)} {ops : List OpT} {ats : List Nat} {used i : Nat} (h : i < fs.length) (ho : isOp fs[i] = none) (hf : fs[i] ≠ numF 3 ops.length) : segP fs ops ats false used i = (ops, ats, false, used) := by
  unfold segP
  rw [if_neg (by simp), List.drop_eq_getElem_cons h, segR_no ho hf]
  simp
theorem r12_Scan (h0 : FH) (a : Option Addr) (c : Nat) (b : List UInt8) (w : World) (hs : Sat h0 w) (hr : BS h0 a c b) (hb : b.length ≤ 1000000) :
    Spec Tryd.prog 41 #[.slice a b.length c] w [] h0 (fun v h' L' => ∃ A, v = .tuple #[.agg (ifV (scanS b).1 A).toArray, .int .i64 (scanS b).2] ∧ L' = [] ∧ IfR h' (scanS b).1 A) := by
  have H := St.start hs
  have hSc := r10_Scan h0 a c b
  obtain ⟨hfl, hfm⟩ := frames_mem b
  have hno := fun h => scanS_nil (b := b) h
  have hno1 := fun f l h hn => scanS_no (b := b) (f := f) (l := l) h hn
  have hyes := fun l id h => scanS_ok (b := b) (l := l) (id := id) h
  generalize frames b = fs at hSc hfl hfm hno hno1 hyes
  unfold Spec
  refine calls_of Tryd.func41 rfl Tryd.ntmps41 (by simp) ?_
  repeat' (first | ((first | refine WL.p rfl ?_ | refine WL.u ?_ | refine WL.g rfl rfl ?_ | refine WL.gu rfl ?_); first | (refine opk 1 rfl ?_; (refine ost_Sk H rfl (hSc _ H.sat hr hb) rfl ?_; clear H; rintro vk wk hfk Lk ⟨vs, a1, c1, kk, rfl, rfl, hL, hF⟩ hle H; simp only [List.cons_append, List.nil_append] at H)) | refine pvQ ?_ | (refine opk 3 rfl ?_; (refine ost_cmp rfl rfl rfl rfl (fun hc => ?_) (fun hc => ?_) <;> (simp only [cmpP] at hc; try exact prIQ))) | (refine opk 4 rfl ?_; (refine ost_cmp rfl rfl rfl rfl (fun hc => ?_) (fun hc => ?_) <;> (simp only [cmpP] at hc; try exact prIQ))) | (refine opk 8 rfl ?_; first | (refine ost_store1 H rfl rfl vlQ gvQ ixQ (by first | decide | (simp; omega) | (simp; done) | omega) ?_; clear H; intro wk H; simp only [List.set_cons_zero, List.set_cons_succ, Nat.reduceAdd] at H) | (refine ost_storeW H rfl rfl rfl rfl lQ ixQ lQ okQ ?_; clear H; intro wk H; simp only [List.set_cons_zero, List.set_cons_succ, Nat.reduceAdd] at H)) | (refine opk 9 rfl ?_; first | (refine ost_allocA H rfl ?_; clear H; intro bk wk H) | (refine ost_build1 H rfl rfl rfl evQ lsQ rfl ?_; clear H; intro bk wk H))) | refine Wc.seq ?_ | refine then_n ?_ | refine WL.nil ?_ | refine Wc.region ?_ | refine Wc.block ?_ | refine then_r ?_ | refine then_e ?_ | refine inb_e rfl ?_ | refine inb_o rfl ?_ | refine inb_n ?_ | refine inb_r ?_ | refine Wc.skip ?_ | refine Wc.exit ?_ | refine Wc.ret ?_ | refine Wc.cond_true rfl ?_ | refine Wc.cond_false rfl ?_ | refine WL.skp rfl rfl ?_ | refine WL.sku rfl ?_)
  · obtain rfl : fs = [] := List.eq_nil_of_length_eq_zero (by have := hF.1; rw [List.length_map] at hc; omega)
    rw [hno rfl]
    exact fn_ret2 (v2 := .int _ _) rfl (rv_cellA rfl rfl H.bI lQ) rfl ⟨_, _, H.pick0, zeroIA, rfl, rfl, zeroI_R _⟩
  rename FH => h5
  have hvl : (vs.map oneV).length = vs.length := List.length_map ..
  have hv := hF.1
  have h0f : 0 < fs.length := by omega
  obtain ⟨bl, off, ll, T, fr, e2, eb, eg⟩ := hL.getM (by decide) (by omega)
  subst e2
  have hcl := hL.lenM
  have hcell : ∀ i (hi : i < fs.length), ∃ ai ci, ll[off + (i : Int).toNat * 1]? = some (.slice ai fs[i].length ci) ∧ BS h5 ai ci fs[i] := fun i hi => by
    obtain ⟨ai, ci, e3, hb3⟩ := hF.2 i (by omega) hi
    refine ⟨ai, ci, ?_, hb3⟩
    have := row_cell (eg i i (by omega) rfl) (q := 0) (by simp [oneV])
    rw [show off + (i : Int).toNat * 1 = off + i * 1 + 0 by omega, this, ← e3]; rfl
  have hlen : ∀ i (hi : i < fs.length), fs[i].length ≤ 4096 := fun i hi => hfm _ (List.getElem_mem hi)
  clear eg hF hL hfm
  obtain ⟨f0, rest, hfs⟩ : ∃ f0 rest, fs = f0 :: rest := by
    cases fs with
    | nil => simp at h0f
    | cons x l => exact ⟨x, l, rfl⟩
  have hf0 : fs[0] = f0 := by simp only [hfs, List.getElem_cons_zero]
  obtain ⟨x0, y0, g0, bs0⟩ := hcell 0 h0f
  rw [hf0] at g0 bs0
  have g0 : ll[off + (0 : Int).toNat * 1]? = some (.slice x0 f0.length y0) := g0
  have hl0 := hlen 0 h0f
  rw [hf0] at hl0
  have hnum := r12_second h5 x0 y0 f0 1
  have hno1 := fun hn => hno1 f0 rest hfs hn
  have hnl := nm2_lt f0
  have hiff := ok2_iff (f := f0) (kind := 1) (by decide)
  cases hq : ok2 f0 1 with
  | false =>
    rw [hq] at hnum
    have hD := hno1 fun id e => by
      have := ok2_of (kind := 1) (n := id.toNat) (by decide) (by have := id.toNat_lt; omega)
      rw [← e, hq] at this; cases this
    rw [hD]
    repeat' (first | ((first | refine WL.p rfl ?_ | refine WL.u ?_ | refine WL.g rfl rfl ?_ | refine WL.gu rfl ?_); first | (refine opk 1 rfl ?_; (refine ost_V H rfl (hnum _ H.sat bs0 (by omega)) rfl ?_; clear H; intro wk H)) | refine pvQ ?_ | (refine opk 3 rfl ?_; (refine ost_cmp rfl rfl rfl rfl (fun hc => ?_) (fun hc => ?_) <;> (simp only [cmpP] at hc; try exact prIQ))) | (refine opk 4 rfl ?_; (refine ost_cmp rfl rfl rfl rfl (fun hc => ?_) (fun hc => ?_) <;> (simp only [cmpP] at hc; try exact prIQ))) | (refine opk 8 rfl ?_; first | (refine ost_store1 H rfl rfl vlQ gvQ ixQ (by first | decide | (simp; omega) | (simp; done) | omega) ?_; clear H; intro wk H; simp only [List.set_cons_zero, List.set_cons_succ, Nat.reduceAdd] at H) | (refine ost_storeW H rfl rfl rfl rfl lQ ixQ lQ okQ ?_; clear H; intro wk H; simp only [List.set_cons_zero, List.set_cons_succ, Nat.reduceAdd] at H)) | (refine opk 9 rfl ?_; first | (refine ost_allocA H rfl ?_; clear H; intro bk wk H) | (refine ost_build1 H rfl rfl rfl evQ lsQ rfl ?_; clear H; intro bk wk H))) | refine Wc.seq ?_ | refine then_n ?_ | refine WL.nil ?_ | refine Wc.region ?_ | refine Wc.block ?_ | refine then_r ?_ | refine then_e ?_ | refine inb_e rfl ?_ | refine inb_o rfl ?_ | refine inb_n ?_ | refine inb_r ?_ | refine Wc.skip ?_ | refine Wc.exit ?_ | refine Wc.ret ?_ | refine Wc.cond_true rfl ?_ | refine Wc.cond_false rfl ?_ | refine WL.skp rfl rfl ?_ | refine WL.sku rfl ?_)
    exact fn_ret2 (v2 := .int _ _) rfl (rv_cellA rfl rfl H.bI lQ) rfl ⟨_, _, H.pick0, zeroIA, rfl, rfl, zeroI_R _⟩
  | true =>
    rw [hq] at hnum
    have hf := hiff.1 hq
    by_cases hid : 4294967295 < nm2 f0
    · have hD := hno1 fun id e => by
        have := nm2_of (kind := 1) (n := id.toNat) (by decide) (by have := id.toNat_lt; omega)
        rw [← e] at this
        have := id.toNat_lt
        omega
      rw [hD]
      repeat' (first | ((first | refine WL.p rfl ?_ | refine WL.u ?_ | refine WL.g rfl rfl ?_ | refine WL.gu rfl ?_); first | (refine opk 1 rfl ?_; (refine ost_V H rfl (hnum _ H.sat bs0 (by omega)) rfl ?_; clear H; intro wk H)) | refine pvQ ?_ | (refine opk 3 rfl ?_; (refine ost_cmp rfl rfl rfl rfl (fun hc => ?_) (fun hc => ?_) <;> (simp only [cmpP] at hc; try exact prIQ))) | (refine opk 4 rfl ?_; (refine ost_cmp rfl rfl rfl rfl (fun hc => ?_) (fun hc => ?_) <;> (simp only [cmpP] at hc; try exact prIQ))) | (refine opk 8 rfl ?_; first | (refine ost_store1 H rfl rfl vlQ gvQ ixQ (by first | decide | (simp; omega) | (simp; done) | omega) ?_; clear H; intro wk H; simp only [List.set_cons_zero, List.set_cons_succ, Nat.reduceAdd] at H) | (refine ost_storeW H rfl rfl rfl rfl lQ ixQ lQ okQ ?_; clear H; intro wk H; simp only [List.set_cons_zero, List.set_cons_succ, Nat.reduceAdd] at H)) | (refine opk 9 rfl ?_; first | (refine ost_allocA H rfl ?_; clear H; intro bk wk H) | (refine ost_build1 H rfl rfl rfl evQ lsQ rfl ?_; clear H; intro bk wk H))) | refine Wc.seq ?_ | refine then_n ?_ | refine WL.nil ?_ | refine Wc.region ?_ | refine Wc.block ?_ | refine then_r ?_ | refine then_e ?_ | refine inb_e rfl ?_ | refine inb_o rfl ?_ | refine inb_n ?_ | refine inb_r ?_ | refine Wc.skip ?_ | refine Wc.exit ?_ | refine Wc.ret ?_ | refine Wc.cond_true rfl ?_ | refine Wc.cond_false rfl ?_ | refine WL.skp rfl rfl ?_ | refine WL.sku rfl ?_)
      exact fn_ret2 (v2 := .int _ _) rfl (rv_cellA rfl rfl H.bI lQ) rfl ⟨_, _, H.pick0, zeroIA, rfl, rfl, zeroI_R _⟩
    · obtain ⟨id, hid2⟩ : ∃ id : UInt32, nm2 f0 = id.toNat := ⟨UInt32.ofNat (nm2 f0), by simp; omega⟩
      rw [hid2] at hf hnum
      have hS := hyes rest id (by rw [← hf]; exact hfs)
      rw [hS]
      have hidl := id.toNat_lt
      have hhl := headB_len id
      repeat' (first | ((first | refine WL.p rfl ?_ | refine WL.u ?_ | refine WL.g rfl rfl ?_ | refine WL.gu rfl ?_); first | (refine opk 1 rfl ?_; first | (refine ost_V H rfl (hnum _ H.sat bs0 (by omega)) rfl ?_; clear H; intro wk H) | (refine ost_C H rfl (r12_Head id _ _ (sat_full _)) rfl ?_; clear H; rintro vk wk hfk Lk ⟨a5, c5, rfl, rfl⟩ H; simp only [List.cons_append, List.nil_append] at H)) | refine pvQ ?_ | (refine opk 3 rfl ?_; (refine ost_cmp rfl rfl rfl rfl (fun hc => ?_) (fun hc => ?_) <;> (simp only [cmpP] at hc; try exact prIQ))) | (refine opk 4 rfl ?_; (refine ost_cmp rfl rfl rfl rfl (fun hc => ?_) (fun hc => ?_) <;> (simp only [cmpP] at hc; try exact prIQ))) | (refine opk 8 rfl ?_; first | (refine ost_store1 H rfl rfl vlQ gvQ ixQ (by first | decide | (simp; omega) | (simp; done) | omega) ?_; clear H; intro wk H; simp only [List.set_cons_zero, List.set_cons_succ, Nat.reduceAdd] at H) | (refine ost_storeW H rfl rfl rfl rfl lQ ixQ lQ okQ ?_; clear H; intro wk H; simp only [List.set_cons_zero, List.set_cons_succ, Nat.reduceAdd] at H)) | (refine opk 9 rfl ?_; first | (refine ost_allocA H rfl ?_; clear H; intro bk wk H) | (refine ost_build1 H rfl rfl rfl evQ lsQ rfl ?_; clear H; intro bk wk H))) | refine Wc.seq ?_ | refine then_n ?_ | refine WL.nil ?_ | refine Wc.region ?_ | refine Wc.block ?_ | refine then_r ?_ | refine then_e ?_ | refine inb_e rfl ?_ | refine inb_o rfl ?_ | refine inb_n ?_ | refine inb_r ?_ | refine Wc.skip ?_ | refine Wc.exit ?_ | refine Wc.ret ?_ | refine Wc.cond_true rfl ?_ | refine Wc.cond_false rfl ?_ | refine WL.skp rfl rfl ?_ | refine WL.sku rfl ?_)
      obtain ⟨bi, ebi⟩ := H.nameB idx1
      subst ebi
      obtain ⟨b2, eb2⟩ := H.nameB idx2
      subst eb2
      rw [show (wrapB (numF 1 id.toNat)).length = (headB id).length from rfl]
      generalize hR : segR rest 0 (headB id).length = R0
      have hQ0 : segP fs [] [] false (headB id).length 1 = R0 := by
        unfold segP; rw [if_neg (by simp), hfs]
        show ([] ++ (segR rest 0 (headB id).length).1, [] ++ (segR rest 0 (headB id).length).2.1, (segR rest 0 (headB id).length).2.2) = R0
        rw [hR]; rfl
      clear hno hno1 hyes hS hR hiff hnum hfs hf0 hf
      generalize (headB id).length = hl at hhl hQ0 ⊢
      replace H : St w [] h0 h5 [ownR (.slice none (([] : List OpT).map cOp).length 0) 67 23 (([] : List OpT).map cOp), ownR (.slice none (([] : List Nat).map cI).length 0) 3 1 (([] : List Nat).map cI), .blk bi (.cells [Value.int .u32 id.toNat, .slice none 0 0, .slice none 0 0, .bool false, .int .i64 0].toArray 80 (0, 0)), .blk b2 (.cells (ifL 0 0 0 false 0 none 0 none 0).toArray 80 (0, 0))] _ := ((H.tl).nilOwn 3 1).nilOwn 67 23
      refine Wc.loopE (fun s0 m s w' => ∃ (ops : List OpT) (ats : List Nat) (sld : Bool) (used i : Nat) (ao : Option Addr) (co : Nat) (at_ : Option Addr) (ct : Nat), m = (if sld = true then 0 else fs.length + 1 - i) ∧ i ≤ fs.length ∧ ops.length ≤ i ∧ ats.length = ops.length ∧ used ≤ 5000 * i ∧ segP fs ops ats sld used i = R0 ∧ Agree [9, 10, 11, 12, 13, 14, 15, 16, 17, 18, 49, 50, 51, 52, 53, 54, 55, 56, 57, 58, 59, 60, 61, 62, 63, 64, 65, 66, 67, 68, 69, 70, 71, 72, 73, 74, 75, 76, 77, 78, 79, 80, 81, 82, 83, 84, 85, 86, 87, 88, 89, 90, 91, 92, 93, 94, 95, 96, 97, 98, 99, 100, 101, 102, 103, 104, 105, 106, 107, 108, 109, 110, 111, 112] s s0 ∧ s 9 = .slice ao (ops.map cOp).length co ∧ s 10 = .slice at_ (ats.map cI).length ct ∧ s 11 = .int .i64 used ∧ s 12 = .int .i64 i ∧
        St w [] h0 h5 [ownR (.slice ao (ops.map cOp).length co) 67 23 (ops.map cOp), ownR (.slice at_ (ats.map cI).length ct) 3 1 (ats.map cI), .blk bi (.cells [Value.int .u32 id.toNat, .slice none 0 0, .slice none 0 0, .bool sld, .int .i64 0].toArray 80 (0, 0)), .blk b2 (.cells (ifL 0 0 0 false 0 none 0 none 0).toArray 80 (0, 0))] w') (fs.length + 1 - 1) ⟨[], [], false, hl, 1, none, 0, none, 0, rfl, by omega, Nat.zero_le _, rfl, by omega, hQ0, Agree.refl _ _, rfl, rfl, rfl, rfl, H⟩ ?_
      clear H hQ0
      rintro m s w' ⟨ops, ats, sld, used, i, ao, co, at_, ct, rfl, hi, hol, hal, hu, hQ, hA, e1, e2, e3, e4, H⟩
      obtain ⟨j, rfl⟩ := hA.env4 e1 e2 e3 e4
      clear hA e1 e2 e3 e4
      have hol2 : (ops.map cOp).length ≤ 1000000 := by rw [List.length_map]; omega
      have hal2 : (ats.map cI).length ≤ 1000000 := by rw [List.length_map]; omega
      have hll : (ops.map cOp).length = ops.length := List.length_map ..
      cases sld with
      | true =>
        rw [segP_sld] at hQ
        obtain ⟨ao7, co7, h7, e7, hle7, hO7, H9⟩ := H.freezeR (rows_cOp ops)
        injection e7 with e71 e72 e73
        subst e71; subst e73
        obtain ⟨at8, ct8, h8, e8, hle8, hA8, H7⟩ := H9.freezeR (rows_cI ats)
        injection e8 with e81 e82 e83
        subst e81; subst e83
        clear H H9
        have H := H7
        clear H7
        have eb := hle8 _ _ (hle7 _ _ eb)
        repeat' (first | ((first | refine WL.p rfl ?_ | refine WL.u ?_ | refine WL.g rfl rfl ?_ | refine WL.gu rfl ?_); first | refine pvQ ?_ | (refine opk 3 rfl ?_; (refine ost_cmp rfl rfl rfl rfl (fun hc => ?_) (fun hc => ?_) <;> (simp only [cmpP] at hc; try exact prIQ))) | (refine opk 4 rfl ?_; (refine ost_cmp rfl rfl rfl rfl (fun hc => ?_) (fun hc => ?_) <;> (simp only [cmpP] at hc; try exact prIQ))) | (refine opk 8 rfl ?_; first | (refine ost_store1 H rfl rfl vlQ gvQ ixQ (by first | decide | (simp; omega) | (simp; done) | omega) ?_; clear H; intro wk H; simp only [List.set_cons_zero, List.set_cons_succ, Nat.reduceAdd] at H) | (refine ost_storeW H rfl rfl rfl rfl lQ ixQ lQ okQ ?_; clear H; intro wk H; simp only [List.set_cons_zero, List.set_cons_succ, Nat.reduceAdd] at H)) | (refine opk 9 rfl ?_; first | (refine ost_allocA H rfl ?_; clear H; intro bk wk H) | (refine ost_build1 H rfl rfl rfl evQ lsQ rfl ?_; clear H; intro bk wk H))) | refine Wc.seq ?_ | refine then_n ?_ | refine WL.nil ?_ | refine Wc.region ?_ | refine Wc.block ?_ | refine then_r ?_ | refine then_e ?_ | refine inb_e rfl ?_ | refine inb_o rfl ?_ | refine inb_n ?_ | refine inb_r ?_ | refine Wc.skip ?_ | refine Wc.exit ?_ | refine Wc.ret ?_ | refine Wc.cond_true rfl ?_ | refine Wc.cond_false rfl ?_ | refine WL.skp rfl rfl ?_ | refine WL.sku rfl ?_)
        all_goals exact fn_ret2 (v2 := .int _ _) rfl (rv_cellA rfl rfl H.bI lQ) rfl ⟨_, _, H.pick0, ⟨ao, co, at_, ct⟩, by rw [← hQ, List.length_map, List.length_map]; rfl, rfl, by rw [← hQ]; exact ⟨hO7.mono hle8, hA8⟩⟩
      | false =>
        by_cases hlt : i < fs.length
        · obtain ⟨x1, y1, g1, bs1⟩ := hcell i hlt
          have hl1 := hlen i hlt
          have q2 := @segP_op fs ops ats used i
          have q3 := fun h => @segP_foot fs ops ats used i hlt h
          have q4 := fun h => @segP_no fs ops ats used i hlt h
          have q2 := fun o h => q2 (o := o) hlt h
          generalize fs[i] = f at g1 bs1 hl1 q2 q3 q4
          have hwl := wrapB_len f
          have hWr := fun h0 w hs => r10_Wrapn f.length h0 x1 y1 f w hs rfl hl1
          have hop := fun h0 => r12_operation h0 x1 y1 f
          have hnum := fun h0 => r12_second h0 x1 y1 f 3
          cases hio : isOp f with
          | some o =>
            obtain ⟨o1, o2⟩ := opR_of hio
            rw [o1, o2] at hop
            rw [q2 o hio] at hQ
            clear q2 q3 q4
            have lo := cOp_len o
            repeat' (first | ((first | refine WL.p rfl ?_ | refine WL.u ?_ | refine WL.g rfl rfl ?_ | refine WL.gu rfl ?_); first | (refine opk 1 rfl ?_; first | (refine ost_C H rfl (hWr _ _ (sat_full _) (bs1.full H)) rfl ?_; clear H; rintro vk wk hfk Lk ⟨a5, c5, rfl, _, rfl⟩ H; simp only [List.cons_append, List.nil_append] at H) | (refine ost_V H rfl (hop _ _ H.sat bs1 (by omega)) rfl ?_; clear H; intro wk H) | (refine ost_V H rfl (hnum _ _ H.sat bs1 (by omega)) rfl ?_; clear H; intro wk H) | (refine ost_appR (rows := ops.map cOp) (row := cOp o) H rfl rfl rfl (by (exact ixQ)) (by (exact ixQ)) (by rfl) (by first | simp; done | exact Nat.succ_pos _) lo (cOp_one o) rfl (by omega) ?_; clear H; intro aa1 ca1 wk H; simp only [List.set_cons_zero, List.set_cons_succ] at H) | (refine ost_appR (rows := ats.map cI) (row := [.int .i64 (used : Nat)]) H rfl rfl rfl (by (exact ixQ)) (by (exact ixQ)) (by rfl) (by first | simp; done | exact Nat.succ_pos _) rfl (allOne_of rfl) rfl (by omega) ?_; clear H; intro aa ca wk H; simp only [List.set_cons_zero, List.set_cons_succ] at H)) | (refine opk 9 rfl ?_; first | (refine ost_buildR (rows := [cOp o]) H rfl (by decide) rfl (by rfl) (evP1 vxQ) (.cons rfl .nil) rfl (fun r hr => by rw [List.mem_singleton.1 hr]; rfl) ?_; clear H; intro bk wk H) | (refine ost_buildR (rows := [[.int .i64 (used : Nat)]]) H rfl (by decide) rfl (by rfl) (evP1 vxQ) (.cons rfl .nil) rfl (fun r hr => by rw [List.mem_singleton.1 hr]; rfl) ?_; clear H; intro bk wk H)) | refine pvQ ?_ | (refine opk 3 rfl ?_; (refine ost_cmp rfl rfl rfl rfl (fun hc => ?_) (fun hc => ?_) <;> (simp only [cmpP] at hc; try exact prIQ))) | (refine opk 4 rfl ?_; (refine ost_cmp rfl rfl rfl rfl (fun hc => ?_) (fun hc => ?_) <;> (simp only [cmpP] at hc; try exact prIQ))) | (refine opk 8 rfl ?_; first | (refine ost_store1 H rfl rfl vlQ gvQ ixQ (by first | decide | (simp; omega) | (simp; done) | omega) ?_; clear H; intro wk H; simp only [List.set_cons_zero, List.set_cons_succ, Nat.reduceAdd] at H) | (refine ost_storeW H rfl rfl rfl rfl lQ ixQ lQ okQ ?_; clear H; intro wk H; simp only [List.set_cons_zero, List.set_cons_succ, Nat.reduceAdd] at H)) | (refine opk 9 rfl ?_; first | (refine ost_allocA H rfl ?_; clear H; intro bk wk H) | (refine ost_build1 H rfl rfl rfl evQ lsQ rfl ?_; clear H; intro bk wk H))) | refine Wc.seq ?_ | refine then_n ?_ | refine WL.nil ?_ | refine Wc.region ?_ | refine Wc.block ?_ | refine then_r ?_ | refine then_e ?_ | refine inb_e rfl ?_ | refine inb_o rfl ?_ | refine inb_n ?_ | refine inb_r ?_ | refine Wc.skip ?_ | refine Wc.exit ?_ | refine Wc.ret ?_ | refine Wc.cond_true rfl ?_ | refine Wc.cond_false rfl ?_ | refine WL.skp rfl rfl ?_ | refine WL.sku rfl ?_)
            exact ⟨fs.length + 1 - (i + 1), by rw [if_neg (by simp)]; omega, ops ++ [o], ats ++ [used], false, used + (wrapB f).length, i + 1, aa1, ca1, aa, ca, by rw [if_neg (by simp)], by omega, by rw [List.length_append]; simp; omega, by simp [hal], by omega, hQ, by (repeat' (first | exact Agree.refl _ _ | exact Agree.havoc | refine Agree.upd rfl ?_ | refine Agree.hav2 rfl ?_)), by rw [List.map_append]; rfl, by rw [List.map_append]; rfl, rfl, rfl, by rw [List.map_append, List.map_append]; exact H.picks [4, 5, 6, 7] rfl (by decide)⟩
          | none =>
            have o2 : (opS f).2 = false := by unfold opS; rw [hio]
            rw [o2] at hop
            have lo := cOp_len (opR f)
            by_cases hft : f = numF 3 ops.length
            · rw [q3 hio hft] at hQ
              clear q2 q3 q4
              have o3 : ok2 f 3 = true := by rw [hft]; exact ok2_of (by decide) (by omega)
              have n3 : nm2 f = ops.length := by rw [hft]; exact nm2_of (by decide) (by omega)
              rw [o3, n3] at hnum
              repeat' (first | ((first | refine WL.p rfl ?_ | refine WL.u ?_ | refine WL.g rfl rfl ?_ | refine WL.gu rfl ?_); first | (refine opk 1 rfl ?_; first | (refine ost_C H rfl (hWr _ _ (sat_full _) (bs1.full H)) rfl ?_; clear H; rintro vk wk hfk Lk ⟨a5, c5, rfl, _, rfl⟩ H; simp only [List.cons_append, List.nil_append] at H) | (refine ost_V H rfl (hop _ _ H.sat bs1 (by omega)) rfl ?_; clear H; intro wk H) | (refine ost_V H rfl (hnum _ _ H.sat bs1 (by omega)) rfl ?_; clear H; intro wk H)) | refine pvQ ?_ | (refine opk 3 rfl ?_; (refine ost_cmp rfl rfl rfl rfl (fun hc => ?_) (fun hc => ?_) <;> (simp only [cmpP] at hc; try exact prIQ))) | (refine opk 4 rfl ?_; (refine ost_cmp rfl rfl rfl rfl (fun hc => ?_) (fun hc => ?_) <;> (simp only [cmpP] at hc; try exact prIQ))) | (refine opk 8 rfl ?_; first | (refine ost_store1 H rfl rfl vlQ gvQ ixQ (by first | decide | (simp; omega) | (simp; done) | omega) ?_; clear H; intro wk H; simp only [List.set_cons_zero, List.set_cons_succ, Nat.reduceAdd] at H) | (refine ost_storeW H rfl rfl rfl rfl lQ ixQ lQ okQ ?_; clear H; intro wk H; simp only [List.set_cons_zero, List.set_cons_succ, Nat.reduceAdd] at H)) | (refine opk 9 rfl ?_; first | (refine ost_allocA H rfl ?_; clear H; intro bk wk H) | (refine ost_build1 H rfl rfl rfl evQ lsQ rfl ?_; clear H; intro bk wk H))) | refine Wc.seq ?_ | refine then_n ?_ | refine WL.nil ?_ | refine Wc.region ?_ | refine Wc.block ?_ | refine then_r ?_ | refine then_e ?_ | refine inb_e rfl ?_ | refine inb_o rfl ?_ | refine inb_n ?_ | refine inb_r ?_ | refine Wc.skip ?_ | refine Wc.exit ?_ | refine Wc.ret ?_ | refine Wc.cond_true rfl ?_ | refine Wc.cond_false rfl ?_ | refine WL.skp rfl rfl ?_ | refine WL.sku rfl ?_)
              exact ⟨0, by rw [if_neg (by simp)]; omega, ops, ats, true, used + (wrapB f).length, i + 1, ao, co, at_, ct, rfl, by omega, by omega, hal, by omega, hQ, by (repeat' (first | exact Agree.refl _ _ | exact Agree.havoc | refine Agree.upd rfl ?_ | refine Agree.hav2 rfl ?_)), rfl, rfl, rfl, rfl, H.picks [2, 3, 4, 5] rfl (by decide)⟩
            · rw [q4 hio hft] at hQ
              clear q2 q3 q4
              obtain ⟨ao7, co7, h7, e7, hle7, hO7, H9⟩ := H.freezeR (rows_cOp ops)
              injection e7 with e71 e72 e73
              subst e71; subst e73
              obtain ⟨at8, ct8, h8, e8, hle8, hA8, H7⟩ := H9.freezeR (rows_cI ats)
              injection e8 with e81 e82 e83
              subst e81; subst e83
              clear H H9
              have H := H7
              clear H7
              have eb := hle8 _ _ (hle7 _ _ eb)
              have bs1 := (bs1.mono hle7).mono hle8
              cases o3 : ok2 f 3 with
              | true =>
                have hne : nm2 f ≠ ops.length := fun e => hft (by rw [← e]; exact (ok2_iff (by decide)).1 o3)
                rw [o3] at hnum
                repeat' (first | ((first | refine WL.p rfl ?_ | refine WL.u ?_ | refine WL.g rfl rfl ?_ | refine WL.gu rfl ?_); first | (refine opk 1 rfl ?_; first | (refine ost_C H rfl (hWr _ _ (sat_full _) (bs1.full H)) rfl ?_; clear H; rintro vk wk hfk Lk ⟨a5, c5, rfl, _, rfl⟩ H; simp only [List.cons_append, List.nil_append] at H) | (refine ost_V H rfl (hop _ _ H.sat bs1 (by omega)) rfl ?_; clear H; intro wk H) | (refine ost_V H rfl (hnum _ _ H.sat bs1 (by omega)) rfl ?_; clear H; intro wk H)) | refine pvQ ?_ | (refine opk 3 rfl ?_; (refine ost_cmp rfl rfl rfl rfl (fun hc => ?_) (fun hc => ?_) <;> (simp only [cmpP] at hc; try exact prIQ))) | (refine opk 4 rfl ?_; (refine ost_cmp rfl rfl rfl rfl (fun hc => ?_) (fun hc => ?_) <;> (simp only [cmpP] at hc; try exact prIQ))) | (refine opk 8 rfl ?_; first | (refine ost_store1 H rfl rfl vlQ gvQ ixQ (by first | decide | (simp; omega) | (simp; done) | omega) ?_; clear H; intro wk H; simp only [List.set_cons_zero, List.set_cons_succ, Nat.reduceAdd] at H) | (refine ost_storeW H rfl rfl rfl rfl lQ ixQ lQ okQ ?_; clear H; intro wk H; simp only [List.set_cons_zero, List.set_cons_succ, Nat.reduceAdd] at H)) | (refine opk 9 rfl ?_; first | (refine ost_allocA H rfl ?_; clear H; intro bk wk H) | (refine ost_build1 H rfl rfl rfl evQ lsQ rfl ?_; clear H; intro bk wk H))) | refine Wc.seq ?_ | refine then_n ?_ | refine WL.nil ?_ | refine Wc.region ?_ | refine Wc.block ?_ | refine then_r ?_ | refine then_e ?_ | refine inb_e rfl ?_ | refine inb_o rfl ?_ | refine inb_n ?_ | refine inb_r ?_ | refine Wc.skip ?_ | refine Wc.exit ?_ | refine Wc.ret ?_ | refine Wc.cond_true rfl ?_ | refine Wc.cond_false rfl ?_ | refine WL.skp rfl rfl ?_ | refine WL.sku rfl ?_)
                all_goals exact fn_ret2 (v2 := .int _ _) rfl (rv_cellA rfl rfl H.bI lQ) rfl ⟨_, _, H.pick0, ⟨ao, co, at_, ct⟩, by rw [← hQ, List.length_map, List.length_map]; rfl, rfl, by rw [← hQ]; exact ⟨hO7.mono hle8, hA8⟩⟩
              | false =>
                rw [o3] at hnum
                repeat' (first | ((first | refine WL.p rfl ?_ | refine WL.u ?_ | refine WL.g rfl rfl ?_ | refine WL.gu rfl ?_); first | (refine opk 1 rfl ?_; first | (refine ost_C H rfl (hWr _ _ (sat_full _) (bs1.full H)) rfl ?_; clear H; rintro vk wk hfk Lk ⟨a5, c5, rfl, _, rfl⟩ H; simp only [List.cons_append, List.nil_append] at H) | (refine ost_V H rfl (hop _ _ H.sat bs1 (by omega)) rfl ?_; clear H; intro wk H) | (refine ost_V H rfl (hnum _ _ H.sat bs1 (by omega)) rfl ?_; clear H; intro wk H)) | refine pvQ ?_ | (refine opk 3 rfl ?_; (refine ost_cmp rfl rfl rfl rfl (fun hc => ?_) (fun hc => ?_) <;> (simp only [cmpP] at hc; try exact prIQ))) | (refine opk 4 rfl ?_; (refine ost_cmp rfl rfl rfl rfl (fun hc => ?_) (fun hc => ?_) <;> (simp only [cmpP] at hc; try exact prIQ))) | (refine opk 8 rfl ?_; first | (refine ost_store1 H rfl rfl vlQ gvQ ixQ (by first | decide | (simp; omega) | (simp; done) | omega) ?_; clear H; intro wk H; simp only [List.set_cons_zero, List.set_cons_succ, Nat.reduceAdd] at H) | (refine ost_storeW H rfl rfl rfl rfl lQ ixQ lQ okQ ?_; clear H; intro wk H; simp only [List.set_cons_zero, List.set_cons_succ, Nat.reduceAdd] at H)) | (refine opk 9 rfl ?_; first | (refine ost_allocA H rfl ?_; clear H; intro bk wk H) | (refine ost_build1 H rfl rfl rfl evQ lsQ rfl ?_; clear H; intro bk wk H))) | refine Wc.seq ?_ | refine then_n ?_ | refine WL.nil ?_ | refine Wc.region ?_ | refine Wc.block ?_ | refine then_r ?_ | refine then_e ?_ | refine inb_e rfl ?_ | refine inb_o rfl ?_ | refine inb_n ?_ | refine inb_r ?_ | refine Wc.skip ?_ | refine Wc.exit ?_ | refine Wc.ret ?_ | refine Wc.cond_true rfl ?_ | refine Wc.cond_false rfl ?_ | refine WL.skp rfl rfl ?_ | refine WL.sku rfl ?_)
                all_goals exact fn_ret2 (v2 := .int _ _) rfl (rv_cellA rfl rfl H.bI lQ) rfl ⟨_, _, H.pick0, ⟨ao, co, at_, ct⟩, by rw [← hQ, List.length_map, List.length_map]; rfl, rfl, by rw [← hQ]; exact ⟨hO7.mono hle8, hA8⟩⟩
        · rw [segP_end (by omega)] at hQ
          obtain ⟨ao7, co7, h7, e7, hle7, hO7, H9⟩ := H.freezeR (rows_cOp ops)
          injection e7 with e71 e72 e73
          subst e71; subst e73
          obtain ⟨at8, ct8, h8, e8, hle8, hA8, H7⟩ := H9.freezeR (rows_cI ats)
          injection e8 with e81 e82 e83
          subst e81; subst e83
          clear H H9
          have H := H7
          clear H7
          have eb := hle8 _ _ (hle7 _ _ eb)
          repeat' (first | ((first | refine WL.p rfl ?_ | refine WL.u ?_ | refine WL.g rfl rfl ?_ | refine WL.gu rfl ?_); first | refine pvQ ?_ | (refine opk 3 rfl ?_; (refine ost_cmp rfl rfl rfl rfl (fun hc => ?_) (fun hc => ?_) <;> (simp only [cmpP] at hc; try exact prIQ))) | (refine opk 4 rfl ?_; (refine ost_cmp rfl rfl rfl rfl (fun hc => ?_) (fun hc => ?_) <;> (simp only [cmpP] at hc; try exact prIQ))) | (refine opk 8 rfl ?_; first | (refine ost_store1 H rfl rfl vlQ gvQ ixQ (by first | decide | (simp; omega) | (simp; done) | omega) ?_; clear H; intro wk H; simp only [List.set_cons_zero, List.set_cons_succ, Nat.reduceAdd] at H) | (refine ost_storeW H rfl rfl rfl rfl lQ ixQ lQ okQ ?_; clear H; intro wk H; simp only [List.set_cons_zero, List.set_cons_succ, Nat.reduceAdd] at H)) | (refine opk 9 rfl ?_; first | (refine ost_allocA H rfl ?_; clear H; intro bk wk H) | (refine ost_build1 H rfl rfl rfl evQ lsQ rfl ?_; clear H; intro bk wk H))) | refine Wc.seq ?_ | refine then_n ?_ | refine WL.nil ?_ | refine Wc.region ?_ | refine Wc.block ?_ | refine then_r ?_ | refine then_e ?_ | refine inb_e rfl ?_ | refine inb_o rfl ?_ | refine inb_n ?_ | refine inb_r ?_ | refine Wc.skip ?_ | refine Wc.exit ?_ | refine Wc.ret ?_ | refine Wc.cond_true rfl ?_ | refine Wc.cond_false rfl ?_ | refine WL.skp rfl rfl ?_ | refine WL.sku rfl ?_)
          all_goals exact fn_ret2 (v2 := .int _ _) rfl (rv_cellA rfl rfl H.bI lQ) rfl ⟨_, _, H.pick0, ⟨ao, co, at_, ct⟩, by rw [← hQ, List.length_map, List.length_map]; rfl, rfl, by rw [← hQ]; exact ⟨hO7.mono hle8, hA8⟩⟩
end Go.Tg

