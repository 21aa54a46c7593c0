/- Proved: the given statement SegmentScansCardSaid: the Go law SegmentScans returns true for every input that it is asked of. No conditions. -/
import Derived.Test.YtajfhoeejeadkaaDoorInst
import Derived.Test.YtajfhoeejeadkaaDoorAuto
import Derived.Test.YtajfhoeejeadkaaDoorSA
import Derived.Test.YtajfhoeejeadkaaDoorQJ
import Derived.Test.YtajfhoeejeadkaaDoorChecked
import Derived.Test.YtajfhoeejeadkaaDoorRows
import Derived.Test.YtajfhoeejeadkaaDoorLift
import Derived.Test.YtajfhoeejeadkaaDoorQ5
import Derived.Test.YtajfhoeejeadkaaDoorVec4
import Derived.Test.YtajfhoeejeadkaaDoorO1
import Derived.Test.YtajfhoeejeadkaaDoorArgs
import Derived.Test.YtajfhoeejeadkaaDoorCards
import Derived.Test.YtajfhoeejeadkaaDoorTie
import Derived.SevenTiedAt
set_option linter.unusedVariables false
set_option linter.unusedSimpArgs false
set_option maxRecDepth 100000
set_option maxHeartbeats 8000000
namespace Go.Tg
open Go Go.Proofs
theorem IfR.full {x : InfT} {A : IAd} {ws w : World} {S : List Nat} {h0 h : FH} {L : List HA} (r : IfR h x A) (H : St ws S h0 h L w) : IfR (Go.Tg.full w) x A := r.mono H.sat.le
theorem ifV_len (x : InfT) (A : IAd) : (ifV x A).length = 5 := rfl
theorem law12_ours (x : InfT) (A : IAd) (w : World) : SpecV Tryd.prog 43 #[.agg (ifV x A).toArray] w (.agg (ifV x A).toArray) := by
  refine specV_of fun h0 hs H => ?_
  obtain ⟨id, ops, ats, sld, used⟩ := x
  obtain ⟨ao, co, at_, ct⟩ := A
  rw [show ifV ⟨id, ops, ats, sld, used⟩ ⟨ao, co, at_, ct⟩ = ifL id ops.length ats.length sld used ao co at_ ct from rfl]
  have l1 : (ifL id ops.length ats.length sld used ao co at_ ct).length = 5 := rfl
  refine calls_of Tryd.func43 rfl Tryd.ntmps43 (by simp) ?_
  repeat' (first | ((first | refine WL.p rfl ?_ | refine WL.u ?_); first | (refine opk 9 rfl ?_; (refine ost_buildS rfl (evP_cons (rfl : _ = Value.int .u32 _) (evP_cons (rfl : _ = Value.slice _ _ _) (evP_cons (rfl : _ = Value.slice _ _ _) (evP_cons (rfl : _ = Value.bool _) (evP_cons (rfl : _ = Value.int .i64 _) evP_nil))))) rfl (rfl : _ = [_, _, _, _, _]) ?_)) | refine pvQ ?_ | (refine opk 8 rfl ?_; (refine ost_storeW H rfl rfl rfl rfl lQ ixQ lQ okQ ?_; clear H; intro wk H; simp only [List.set_cons_zero, List.set_cons_succ, Nat.reduceAdd] at H)) | (refine opk 9 rfl ?_; first | (refine ost_boxq H rfl ?_; clear H; intro bk wk H) | (refine ost_allocA H rfl ?_; clear H; intro bk wk H))) | refine Wc.seq ?_ | refine then_n ?_ | refine WL.nil ?_ | refine Wc.region ?_ | refine Wc.block ?_ | refine then_r ?_ | refine then_e ?_ | refine inb_e rfl ?_ | refine inb_o rfl ?_ | refine inb_n ?_ | refine inb_r ?_ | refine Wc.skip ?_ | refine Wc.exit ?_ | refine Wc.ret ?_ | refine Wc.cond_true rfl ?_ | refine Wc.cond_false rfl ?_)
  exact fn_ret1 rfl (rv_cellA rfl rfl H.bI lQ) ⟨rfl, H.fr⟩
theorem r12_Same (x : InfT) (A B : IAd) (h0 : FH) (w : World) (hs : Sat h0 w) (hP : IfR h0 x A) (hQ : IfR h0 x B) : SpecV Tryd.prog 42 #[.agg (ifV x A).toArray, .agg (ifV x B).toArray] w (.bool true) := by
  have H := St.start hs
  obtain ⟨id, ops, ats, sld, used⟩ := x
  obtain ⟨ao, co, at_, ct⟩ := A
  obtain ⟨ao', co', at', ct'⟩ := B
  rw [show ifV ⟨id, ops, ats, sld, used⟩ ⟨ao, co, at_, ct⟩ = ifL id ops.length ats.length sld used ao co at_ ct from rfl, show ifV ⟨id, ops, ats, sld, used⟩ ⟨ao', co', at', ct'⟩ = ifL id ops.length ats.length sld used ao' co' at' ct' from rfl]
  have l1 : (ifL id ops.length ats.length sld used ao co at_ ct).length = 5 := rfl
  have l2 : (ifL id ops.length ats.length sld used ao' co' at' ct').length = 5 := rfl
  have q1 := hP.o.lenM
  have q2 := hP.t.lenM
  dsimp only at q1 q2
  unfold SpecV
  refine calls_of Tryd.func42 rfl Tryd.ntmps42 (by simp) ?_
  repeat' (first | ((first | refine WL.p rfl ?_ | refine WL.u ?_ | refine WL.g rfl rfl ?_ | refine WL.gu rfl ?_); first | refine pvQ ?_ | (refine opk 3 rfl ?_; first | (refine ost_eqA rfl (by decide) rfl rfl tyQ tyQ (fun hc => ?_) (fun hc => ?_) <;> try exact prEQ) | (refine ost_neA rfl (by decide) rfl rfl tyQ tyQ (fun hc => ?_) (fun hc => ?_) <;> try exact prEQ) | (refine ost_cmp rfl rfl rfl rfl (fun hc => ?_) (fun hc => ?_) <;> (simp only [cmpP] at hc; try exact prIQ))) | (refine opk 4 rfl ?_; (refine ost_cmp rfl rfl rfl rfl (fun hc => ?_) (fun hc => ?_) <;> (simp only [cmpP] at hc; try exact prIQ))) | (refine opk 9 rfl ?_; (refine ost_boxq H rfl ?_; clear H; intro bk wk H))) | refine Wc.seq ?_ | refine then_n ?_ | refine WL.nil ?_ | refine Wc.region ?_ | refine Wc.block ?_ | refine then_r ?_ | refine then_e ?_ | refine inb_e rfl ?_ | refine inb_o rfl ?_ | refine inb_n ?_ | refine inb_r ?_ | refine Wc.skip ?_ | refine Wc.exit ?_ | refine Wc.ret ?_ | refine Wc.cond_true rfl ?_ | refine Wc.cond_false rfl ?_ | (refine Wc.drawn (id := 6) 10 (by kernel_rfl) ?_) | (refine Wc.drawn (id := 11) 10 (by kernel_rfl) ?_) | refine WL.skp rfl rfl ?_ | refine WL.sku rfl ?_ | (refine rgs_nil ?_; intro vs wk hE; replace H := H.ext hE; clear hE) | refine RGs.skp (fun _ => rfl) rfl ?_ | (refine RGs.bq (fun _ => rfl) rfl (by intro vs w hE hP; have H := H.ext hE; first | exact dbQ | fail) (fun hc => ?_) (fun hc => ?_) <;> ((try simp only [cmpP, decide_eq_true_eq, decide_eq_false_iff_not, dcd_iff, dcd_no] at hc); try exact prDQ)) | refine RGs.pq (fun _ => rfl) rfl (by intro vs w hE hP; have H := H.ext hE; first | exact dvQ | fail) ?_)
  obtain ⟨bQ, ebQ⟩ := H.nameB idx0
  subst ebQ
  obtain ⟨bP, ebP⟩ := H.nameB idx1
  subst ebP
  refine Wc.loopE (fun s0 m s w' => ∃ i : Nat, m = ops.length - i ∧ i ≤ ops.length ∧ Agree [4, 5, 44, 45, 46, 47, 48, 49, 50, 51, 52, 53, 54, 55, 56, 57, 58, 59, 60, 61] s s0 ∧ s 5 = .int .i64 i ∧
    St w [] h0 h0 [.blk bQ (.cells (ifL id ops.length ats.length sld used ao' co' at' ct').toArray 80 (0, 0)), .blk bP (.cells (ifL id ops.length ats.length sld used ao co at_ ct).toArray 80 (0, 0))] w') ops.length ⟨0, rfl, by omega, Agree.refl _ _, rfl, H⟩ ?_
  clear H
  rintro m s w' ⟨i, rfl, hi, hA, e1, H⟩
  obtain ⟨j, rfl⟩ := hA.env1 e1
  clear hA e1
  by_cases hlt : i < ops.length
  · obtain ⟨b, off, l, T, fr, e1, eb, eg⟩ := hP.o.getM (by decide) (Nat.lt_of_le_of_lt (Nat.zero_le _) hlt)
    dsimp only at e1 eg
    subst e1
    have g1 := eg (i : Int).toNat i hlt (by omega)
    obtain ⟨b', off', l', T', fr', e1, eb', eg'⟩ := hQ.o.getM (by decide) (Nat.lt_of_le_of_lt (Nat.zero_le _) hlt)
    dsimp only at e1 eg'
    subst e1
    have g1' := eg' (i : Int).toNat i hlt (by omega)
    have lx := cOp_len ops[i]
    have tx := typed_cOp ops[i]
    repeat' (first | ((first | refine WL.p rfl ?_ | refine WL.u ?_ | refine WL.g rfl rfl ?_ | refine WL.gu rfl ?_); first | refine pvQ ?_ | (refine opk 3 rfl ?_; first | (refine ost_eqA rfl (by decide) rfl rfl tyQ tyQ (fun hc => ?_) (fun hc => ?_) <;> try exact prEQ) | (refine ost_neA rfl (by decide) rfl rfl tyQ tyQ (fun hc => ?_) (fun hc => ?_) <;> try exact prEQ) | (refine ost_cmp rfl rfl rfl rfl (fun hc => ?_) (fun hc => ?_) <;> (simp only [cmpP] at hc; try exact prIQ))) | (refine opk 4 rfl ?_; (refine ost_cmp rfl rfl rfl rfl (fun hc => ?_) (fun hc => ?_) <;> (simp only [cmpP] at hc; try exact prIQ))) | (refine opk 9 rfl ?_; (refine ost_boxq H rfl ?_; clear H; intro bk wk H))) | refine Wc.seq ?_ | refine then_n ?_ | refine WL.nil ?_ | refine Wc.region ?_ | refine Wc.block ?_ | refine then_r ?_ | refine then_e ?_ | refine inb_e rfl ?_ | refine inb_o rfl ?_ | refine inb_n ?_ | refine inb_r ?_ | refine Wc.skip ?_ | refine Wc.exit ?_ | refine Wc.ret ?_ | refine Wc.cond_true rfl ?_ | refine Wc.cond_false rfl ?_ | (refine Wc.drawn (id := 6) 10 (by kernel_rfl) ?_) | (refine Wc.drawn (id := 11) 10 (by kernel_rfl) ?_) | refine WL.skp rfl rfl ?_ | refine WL.sku rfl ?_ | (refine rgs_nil ?_; intro vs wk hE; replace H := H.ext hE; clear hE) | refine RGs.skp (fun _ => rfl) rfl ?_ | (refine RGs.bq (fun _ => rfl) rfl (by intro vs w hE hP; have H := H.ext hE; first | exact dbQ | fail) (fun hc => ?_) (fun hc => ?_) <;> ((try simp only [cmpP, decide_eq_true_eq, decide_eq_false_iff_not, dcd_iff, dcd_no] at hc); try exact prDQ)) | refine RGs.pq (fun _ => rfl) rfl (by intro vs w hE hP; have H := H.ext hE; first | exact dvQ | fail) ?_)
    all_goals exact ⟨ops.length - (i + 1), by omega, i + 1, rfl, by omega, by (repeat' (first | exact Agree.refl _ _ | exact Agree.havoc | refine Agree.upd rfl ?_ | refine Agree.hav2 rfl ?_)), rfl, H⟩
  · obtain rfl : i = ops.length := by omega
    repeat' (first | ((first | refine WL.p rfl ?_ | refine WL.u ?_ | refine WL.g rfl rfl ?_ | refine WL.gu rfl ?_); first | refine pvQ ?_ | (refine opk 3 rfl ?_; first | (refine ost_eqA rfl (by decide) rfl rfl tyQ tyQ (fun hc => ?_) (fun hc => ?_) <;> try exact prEQ) | (refine ost_neA rfl (by decide) rfl rfl tyQ tyQ (fun hc => ?_) (fun hc => ?_) <;> try exact prEQ) | (refine ost_cmp rfl rfl rfl rfl (fun hc => ?_) (fun hc => ?_) <;> (simp only [cmpP] at hc; try exact prIQ))) | (refine opk 4 rfl ?_; (refine ost_cmp rfl rfl rfl rfl (fun hc => ?_) (fun hc => ?_) <;> (simp only [cmpP] at hc; try exact prIQ))) | (refine opk 9 rfl ?_; (refine ost_boxq H rfl ?_; clear H; intro bk wk H))) | refine Wc.seq ?_ | refine then_n ?_ | refine WL.nil ?_ | refine Wc.region ?_ | refine Wc.block ?_ | refine then_r ?_ | refine then_e ?_ | refine inb_e rfl ?_ | refine inb_o rfl ?_ | refine inb_n ?_ | refine inb_r ?_ | refine Wc.skip ?_ | refine Wc.exit ?_ | refine Wc.ret ?_ | refine Wc.cond_true rfl ?_ | refine Wc.cond_false rfl ?_ | (refine Wc.drawn (id := 6) 10 (by kernel_rfl) ?_) | (refine Wc.drawn (id := 11) 10 (by kernel_rfl) ?_) | refine WL.skp rfl rfl ?_ | refine WL.sku rfl ?_ | (refine rgs_nil ?_; intro vs wk hE; replace H := H.ext hE; clear hE) | refine RGs.skp (fun _ => rfl) rfl ?_ | (refine RGs.bq (fun _ => rfl) rfl (by intro vs w hE hP; have H := H.ext hE; first | exact dbQ | fail) (fun hc => ?_) (fun hc => ?_) <;> ((try simp only [cmpP, decide_eq_true_eq, decide_eq_false_iff_not, dcd_iff, dcd_no] at hc); try exact prDQ)) | refine RGs.pq (fun _ => rfl) rfl (by intro vs w hE hP; have H := H.ext hE; first | exact dvQ | fail) ?_)
    refine Wc.loopE (fun s0 m s w' => ∃ i : Nat, m = ats.length - i ∧ i ≤ ats.length ∧ Agree [4, 6, 62, 63, 64, 65, 66, 67, 68, 69, 70, 71, 72, 73, 74, 75, 76, 77, 78, 79] s s0 ∧ s 6 = .int .i64 i ∧
      St w [] h0 h0 [.blk bQ (.cells (ifL id ops.length ats.length sld used ao' co' at' ct').toArray 80 (0, 0)), .blk bP (.cells (ifL id ops.length ats.length sld used ao co at_ ct).toArray 80 (0, 0))] w') ats.length ⟨0, rfl, by omega, Agree.refl _ _, rfl, H⟩ ?_
    clear H
    rintro m s w' ⟨i, rfl, hi, hA, e1, H⟩
    obtain ⟨j, rfl⟩ := hA.env1 e1
    clear hA e1
    by_cases hlt : i < ats.length
    · obtain ⟨b, off, l, T, fr, e1, eb, eg⟩ := hP.t.getM (by decide) (Nat.lt_of_le_of_lt (Nat.zero_le _) hlt)
      dsimp only at e1 eg
      subst e1
      have g1 : l[off + (i : Int).toNat * 1]? = some (.int .i64 (ats[i] : Nat)) := row_cell (eg (i : Int).toNat i hlt (by omega)) (q := 0) (by simp [cI])
      obtain ⟨b', off', l', T', fr', e1, eb', eg'⟩ := hQ.t.getM (by decide) (Nat.lt_of_le_of_lt (Nat.zero_le _) hlt)
      dsimp only at e1 eg'
      subst e1
      have g1' : l'[off' + (i : Int).toNat * 1]? = some (.int .i64 (ats[i] : Nat)) := row_cell (eg' (i : Int).toNat i hlt (by omega)) (q := 0) (by simp [cI])
      repeat' (first | ((first | refine WL.p rfl ?_ | refine WL.u ?_ | refine WL.g rfl rfl ?_ | refine WL.gu rfl ?_); first | refine pvQ ?_ | (refine opk 3 rfl ?_; first | (refine ost_eqA rfl (by decide) rfl rfl tyQ tyQ (fun hc => ?_) (fun hc => ?_) <;> try exact prEQ) | (refine ost_neA rfl (by decide) rfl rfl tyQ tyQ (fun hc => ?_) (fun hc => ?_) <;> try exact prEQ) | (refine ost_cmp rfl rfl rfl rfl (fun hc => ?_) (fun hc => ?_) <;> (simp only [cmpP] at hc; try exact prIQ))) | (refine opk 4 rfl ?_; (refine ost_cmp rfl rfl rfl rfl (fun hc => ?_) (fun hc => ?_) <;> (simp only [cmpP] at hc; try exact prIQ))) | (refine opk 9 rfl ?_; (refine ost_boxq H rfl ?_; clear H; intro bk wk H))) | refine Wc.seq ?_ | refine then_n ?_ | refine WL.nil ?_ | refine Wc.region ?_ | refine Wc.block ?_ | refine then_r ?_ | refine then_e ?_ | refine inb_e rfl ?_ | refine inb_o rfl ?_ | refine inb_n ?_ | refine inb_r ?_ | refine Wc.skip ?_ | refine Wc.exit ?_ | refine Wc.ret ?_ | refine Wc.cond_true rfl ?_ | refine Wc.cond_false rfl ?_ | (refine Wc.drawn (id := 6) 10 (by kernel_rfl) ?_) | (refine Wc.drawn (id := 11) 10 (by kernel_rfl) ?_) | refine WL.skp rfl rfl ?_ | refine WL.sku rfl ?_ | (refine rgs_nil ?_; intro vs wk hE; replace H := H.ext hE; clear hE) | refine RGs.skp (fun _ => rfl) rfl ?_ | (refine RGs.bq (fun _ => rfl) rfl (by intro vs w hE hP; have H := H.ext hE; first | exact dbQ | fail) (fun hc => ?_) (fun hc => ?_) <;> ((try simp only [cmpP, decide_eq_true_eq, decide_eq_false_iff_not, dcd_iff, dcd_no] at hc); try exact prDQ)) | refine RGs.pq (fun _ => rfl) rfl (by intro vs w hE hP; have H := H.ext hE; first | exact dvQ | fail) ?_)
      all_goals exact ⟨ats.length - (i + 1), by omega, i + 1, rfl, by omega, by (repeat' (first | exact Agree.refl _ _ | exact Agree.havoc | refine Agree.upd rfl ?_ | refine Agree.hav2 rfl ?_)), rfl, H⟩
    · obtain rfl : i = ats.length := by omega
      repeat' (first | ((first | refine WL.p rfl ?_ | refine WL.u ?_ | refine WL.g rfl rfl ?_ | refine WL.gu rfl ?_); first | refine pvQ ?_ | (refine opk 3 rfl ?_; first | (refine ost_eqA rfl (by decide) rfl rfl tyQ tyQ (fun hc => ?_) (fun hc => ?_) <;> try exact prEQ) | (refine ost_neA rfl (by decide) rfl rfl tyQ tyQ (fun hc => ?_) (fun hc => ?_) <;> try exact prEQ) | (refine ost_cmp rfl rfl rfl rfl (fun hc => ?_) (fun hc => ?_) <;> (simp only [cmpP] at hc; try exact prIQ))) | (refine opk 4 rfl ?_; (refine ost_cmp rfl rfl rfl rfl (fun hc => ?_) (fun hc => ?_) <;> (simp only [cmpP] at hc; try exact prIQ))) | (refine opk 9 rfl ?_; (refine ost_boxq H rfl ?_; clear H; intro bk wk H))) | refine Wc.seq ?_ | refine then_n ?_ | refine WL.nil ?_ | refine Wc.region ?_ | refine Wc.block ?_ | refine then_r ?_ | refine then_e ?_ | refine inb_e rfl ?_ | refine inb_o rfl ?_ | refine inb_n ?_ | refine inb_r ?_ | refine Wc.skip ?_ | refine Wc.exit ?_ | refine Wc.ret ?_ | refine Wc.cond_true rfl ?_ | refine Wc.cond_false rfl ?_ | (refine Wc.drawn (id := 6) 10 (by kernel_rfl) ?_) | (refine Wc.drawn (id := 11) 10 (by kernel_rfl) ?_) | refine WL.skp rfl rfl ?_ | refine WL.sku rfl ?_ | (refine rgs_nil ?_; intro vs wk hE; replace H := H.ext hE; clear hE) | refine RGs.skp (fun _ => rfl) rfl ?_ | (refine RGs.bq (fun _ => rfl) rfl (by intro vs w hE hP; have H := H.ext hE; first | exact dbQ | fail) (fun hc => ?_) (fun hc => ?_) <;> ((try simp only [cmpP, decide_eq_true_eq, decide_eq_false_iff_not, dcd_iff, dcd_no] at hc); try exact prDQ)) | refine RGs.pq (fun _ => rfl) rfl (by intro vs w hE hP; have H := H.ext hE; first | exact dvQ | fail) ?_)
      (first | refine fn_ret1 (v := .bool _) rfl rfl ⟨?_, H.fr⟩ | refine fn_ret1 (v := .int _ _) rfl rfl ⟨?_, H.fr⟩ | refine fn_ret1 (v := .string _) rfl rfl ⟨?_, H.fr⟩); rfl
theorem law_SegmentScans (a : Option Addr) (c : Nat) (b : List UInt8) (w : World) (hT0 : Half (full w)) (hr0 : BS (full w) a c b) : SpecV Tryd.prog 10 #[.slice a b.length c] w (.bool true) := by
  have H := St.start (sat_full w)
  generalize hh : full w = h0 at H hT0 hr0
  unfold SpecV
  refine calls_of Tryd.func10 rfl Tryd.ntmps10 (by simp) ?_
  by_cases hbl : 3000 < b.length
  · repeat' (first | ((first | refine WL.p rfl ?_ | refine WL.u ?_ | refine WL.g rfl rfl ?_ | refine WL.gu rfl ?_); first | (refine opk 1 rfl ?_; (refine ost_V H rfl (alive12 _ _ (sat_full _) (hT0.full H)) rfl ?_; clear H; intro wk H)) | refine pvQ ?_ | (refine opk 3 rfl ?_; (refine ost_cmp rfl rfl rfl rfl (fun hc => ?_) (fun hc => ?_) <;> (simp only [cmpP] at hc; try exact prIQ))) | (refine opk 4 rfl ?_; (refine ost_cmp rfl rfl rfl rfl (fun hc => ?_) (fun hc => ?_) <;> (simp only [cmpP] at hc; try exact prIQ))) | (refine opk 8 rfl ?_; (refine ost_storeW H rfl rfl rfl rfl lQ ixQ lQ okQ ?_; clear H; intro wk H; simp only [List.set_cons_zero, List.set_cons_succ, Nat.reduceAdd] at H)) | (refine opk 9 rfl ?_; (refine ost_allocA H rfl ?_; clear H; intro bk wk H))) | refine Wc.seq ?_ | refine then_n ?_ | refine WL.nil ?_ | refine Wc.region ?_ | refine Wc.block ?_ | refine then_r ?_ | refine then_e ?_ | refine inb_e rfl ?_ | refine inb_o rfl ?_ | refine inb_n ?_ | refine inb_r ?_ | refine Wc.skip ?_ | refine Wc.exit ?_ | refine Wc.ret ?_ | refine Wc.cond_true rfl ?_ | refine Wc.cond_false rfl ?_ | (refine Wc.drawn (id := 7) 7 (by kernel_rfl) ?_) | refine WL.skp rfl rfl ?_ | refine WL.sku rfl ?_ | (refine rgs_nil ?_; intro vs wk hE; replace H := H.ext hE; clear hE) | refine RGs.skp (fun _ => rfl) rfl ?_ | (refine RGs.bq (fun _ => rfl) rfl (by intro vs w hE hP; have H := H.ext hE; first | exact dbQ | fail) (fun hc => ?_) (fun hc => ?_) <;> ((try simp only [cmpP, decide_eq_true_eq, decide_eq_false_iff_not, dcd_iff, dcd_no] at hc); try exact prDQ)) | refine RGs.pq (fun _ => rfl) rfl (by intro vs w hE hP; have H := H.ext hE; first | exact dvQ | fail) ?_)
    all_goals ((first | refine fn_ret1 (v := .bool _) rfl rfl ⟨?_, H.fr⟩ | refine fn_ret1 (v := .int _ _) rfl rfl ⟨?_, H.fr⟩ | refine fn_ret1 (v := .string _) rfl rfl ⟨?_, H.fr⟩); rfl)
  · have cD := fun h w hs hT hr => seg_Scan h a c b w hs hT hr (by omega)
    have cG := fun h w hs hr => r12_Scan h a c b w hs hr (by omega)
    generalize scanS b = X at cD cG
    obtain ⟨x, g⟩ := X
    dsimp only at cD cG
    repeat' (first | ((first | refine WL.p rfl ?_ | refine WL.u ?_ | refine WL.g rfl rfl ?_ | refine WL.gu rfl ?_); first | (refine opk 1 rfl ?_; first | (refine ost_V H rfl (alive12 _ _ (sat_full _) (hT0.full H)) rfl ?_; clear H; intro wk H) | (refine ost_Sk H rfl (cD _ _ H.sat hT0 hr0) rfl ?_; clear H; rintro vk wk hfk Lk ⟨A2, rfl, rfl, hP2⟩ hle H; simp only [List.cons_append, List.nil_append] at H)) | refine pvQ ?_ | (refine opk 3 rfl ?_; (refine ost_cmp rfl rfl rfl rfl (fun hc => ?_) (fun hc => ?_) <;> (simp only [cmpP] at hc; try exact prIQ))) | (refine opk 4 rfl ?_; (refine ost_cmp rfl rfl rfl rfl (fun hc => ?_) (fun hc => ?_) <;> (simp only [cmpP] at hc; try exact prIQ))) | (refine opk 8 rfl ?_; (refine ost_storeW H rfl rfl rfl rfl lQ ixQ lQ okQ ?_; clear H; intro wk H; simp only [List.set_cons_zero, List.set_cons_succ, Nat.reduceAdd] at H)) | (refine opk 9 rfl ?_; (refine ost_allocA H rfl ?_; clear H; intro bk wk H))) | refine Wc.seq ?_ | refine then_n ?_ | refine WL.nil ?_ | refine Wc.region ?_ | refine Wc.block ?_ | refine then_r ?_ | refine then_e ?_ | refine inb_e rfl ?_ | refine inb_o rfl ?_ | refine inb_n ?_ | refine inb_r ?_ | refine Wc.skip ?_ | refine Wc.exit ?_ | refine Wc.ret ?_ | refine Wc.cond_true rfl ?_ | refine Wc.cond_false rfl ?_ | (refine Wc.drawn (id := 7) 7 (by kernel_rfl) ?_) | refine WL.skp rfl rfl ?_ | refine WL.sku rfl ?_ | (refine rgs_nil ?_; intro vs wk hE; replace H := H.ext hE; clear hE) | refine RGs.skp (fun _ => rfl) rfl ?_ | (refine RGs.bq (fun _ => rfl) rfl (by intro vs w hE hP; have H := H.ext hE; first | exact dbQ | fail) (fun hc => ?_) (fun hc => ?_) <;> ((try simp only [cmpP, decide_eq_true_eq, decide_eq_false_iff_not, dcd_iff, dcd_no] at hc); try exact prDQ)) | refine RGs.pq (fun _ => rfl) rfl (by intro vs w hE hP; have H := H.ext hE; first | exact dvQ | fail) ?_)
    have hrd := hr0.mono hle
    have lx := fun A => ifV_len x A
    rename FH => h9
    clear hle cD
    repeat' (first | ((first | refine WL.p rfl ?_ | refine WL.u ?_ | refine WL.g rfl rfl ?_ | refine WL.gu rfl ?_); first | (refine opk 1 rfl ?_; (refine ost_Sk H rfl (cG _ _ H.sat hrd) rfl ?_; clear H; rintro vk wk hfk Lk ⟨A3, rfl, rfl, hP3⟩ hle H; simp only [List.cons_append, List.nil_append] at H)) | refine pvQ ?_ | (refine opk 3 rfl ?_; (refine ost_cmp rfl rfl rfl rfl (fun hc => ?_) (fun hc => ?_) <;> (simp only [cmpP] at hc; try exact prIQ))) | (refine opk 4 rfl ?_; (refine ost_cmp rfl rfl rfl rfl (fun hc => ?_) (fun hc => ?_) <;> (simp only [cmpP] at hc; try exact prIQ))) | (refine opk 8 rfl ?_; (refine ost_storeW H rfl rfl rfl rfl lQ ixQ lQ okQ ?_; clear H; intro wk H; simp only [List.set_cons_zero, List.set_cons_succ, Nat.reduceAdd] at H)) | (refine opk 9 rfl ?_; (refine ost_allocA H rfl ?_; clear H; intro bk wk H))) | refine Wc.seq ?_ | refine then_n ?_ | refine WL.nil ?_ | refine Wc.region ?_ | refine Wc.block ?_ | refine then_r ?_ | refine then_e ?_ | refine inb_e rfl ?_ | refine inb_o rfl ?_ | refine inb_n ?_ | refine inb_r ?_ | refine Wc.skip ?_ | refine Wc.exit ?_ | refine Wc.ret ?_ | refine Wc.cond_true rfl ?_ | refine Wc.cond_false rfl ?_ | refine WL.skp rfl rfl ?_ | refine WL.sku rfl ?_)
    have hP2 := hP2.mono hle
    clear hle cG
    have hO := law12_ours x A2
    have hS := r12_Same x A2 A3
    repeat' (first | ((first | refine WL.p rfl ?_ | refine WL.u ?_ | refine WL.g rfl rfl ?_ | refine WL.gu rfl ?_); first | refine pvQ ?_ | (refine opk 3 rfl ?_; (refine ost_cmp rfl rfl rfl rfl (fun hc => ?_) (fun hc => ?_) <;> (simp only [cmpP] at hc; try exact prIQ))) | (refine opk 4 rfl ?_; (refine ost_cmp rfl rfl rfl rfl (fun hc => ?_) (fun hc => ?_) <;> (simp only [cmpP] at hc; try exact prIQ))) | (refine opk 8 rfl ?_; (refine ost_storeW H rfl rfl rfl rfl lQ ixQ lQ okQ ?_; clear H; intro wk H; simp only [List.set_cons_zero, List.set_cons_succ, Nat.reduceAdd] at H)) | (refine opk 9 rfl ?_; (refine ost_allocA H rfl ?_; clear H; intro bk wk H))) | refine Wc.seq ?_ | refine then_n ?_ | refine WL.nil ?_ | refine Wc.region ?_ | refine Wc.block ?_ | refine then_r ?_ | refine then_e ?_ | refine inb_e rfl ?_ | refine inb_o rfl ?_ | refine inb_n ?_ | refine inb_r ?_ | refine Wc.skip ?_ | refine Wc.exit ?_ | refine Wc.ret ?_ | refine Wc.cond_true rfl ?_ | refine Wc.cond_false rfl ?_ | (refine Wc.drawn (id := 7) 7 (by kernel_rfl) ?_) | refine WL.skp rfl rfl ?_ | refine WL.sku rfl ?_ | (refine rgs_nil ?_; intro vs wk hE; replace H := H.ext hE; clear hE) | refine RGs.skp (fun _ => rfl) rfl ?_ | (refine RGs.bq (fun _ => rfl) rfl (by intro vs w hE hP; have H := H.ext hE; first | exact dbQ | fail) (fun hc => ?_) (fun hc => ?_) <;> ((try simp only [cmpP, decide_eq_true_eq, decide_eq_false_iff_not, dcd_iff, dcd_no] at hc); try exact prDQ)) | refine RGs.pq (fun _ => rfl) rfl (by intro vs w hE hP; have H := H.ext hE; first | (refine opk 1 rfl ?_; first | (exact ost_V0d rfl (hO _) rfl) | (exact ost_V0d rfl (hS _ _ (sat_full _) (hP2.full H) (hP3.full H)) rfl)) | exact dvQ | fail) ?_)
    all_goals ((first | refine fn_ret1 (v := .bool _) rfl rfl ⟨?_, H.fr⟩ | refine fn_ret1 (v := .int _ _) rfl rfl ⟨?_, H.fr⟩ | refine fn_ret1 (v := .string _) rfl rfl ⟨?_, H.fr⟩); rfl)
end Go.Tg
namespace Go.Proofs.YtajfhoeejeadkaaDoor
open Go.ChangeShapes Go.WideShapes Go.ChangeAt Go.RowKit Go.Tg
theorem segmentScans_lifted (os : Os) (started : os.Started) (H : Type) (enc : TypeId × Value → H) :
    ReturnsInHanded {} Tryd.checked os 10 .any (fun w args => (Rows.segmentScansSpec.pre enc Tryd.prog Tryd.f10 Rows.segmentScansRow.domain false w args ∧ laidMetH Tryd.prog Rows.segmentScansRow.laid w) ∧ sizedMet enc Tryd.prog Tryd.f10 (OpenSpec.ofChange Rows.segmentScansSpec) false w args) (Rows.segmentScansSpec.post enc Tryd.prog Tryd.f10 false true false false) := by
  refine returnsInHanded_of_change_and (C := Tryd.checked) (X := fun w _ => laidMetH Tryd.prog Rows.segmentScansRow.laid w) (fun _ _ _ hh h => h.of_heap hh) own_ started (by kernel_rfl) Tryd.func10
    (ChangeSpec.witness_shaped (enc := enc) (C := Tryd.checked) (os := os) (X := fun w _ => laidMetH Tryd.prog Rows.segmentScansRow.laid w) false (World.laidAll Tryd.prog os Rows.segmentScansRow.laid) #[.slice none 0 0] 8 (World.laidAll_os _ _ _)
      (World.shaped_of_ZipB (by kernel_rfl) (by kernel_rfl)) (by kernel_rfl) (by kernel_rfl) (by kernel_rfl)
      (by rw [MakeChecks.laidMetH_plain _ _ _ (by kernel_rfl)]; exact laidMet_laidAll _ (by kernel_rfl) (by kernel_rfl))) ?_
  intro W base args ds gs before hval0 hW hcnd _ hLd _
  have hval : ∀ (j : Nat) t v, Tryd.f10.params[j]? = some t → args[j]? = some v → Value.okWide Tryd.prog W .any base t v := hval0
  have hT : Half (full W) := half_of (by rfl) hLd
  have hW' := hW
  obtain ⟨p, q, hA0, -, -, -, -⟩ := hW'
  have hA : DataW.TrodAll enc Tryd.prog W 0 (fun _ => true) true Tryd.f10.params.toList args.toList ds p := hA0
  rw [Tryd.params10] at hA hval
  obtain ⟨v0, d0, rfl, rfl, h0⟩ := trodAll_one hA
  obtain ⟨bba, bbc, bb, e0, bbr⟩ := (Td.of h0).bytes Tryd.underlying48 Tryd.underlying5 (by kernel_rfl)
  obtain rfl := val_of1 e0 (okWide_slice Tryd.underlying48 (hval 0 _ v0 rfl rfl))
  refine (law_SegmentScans bba bbc bb W hT bbr).mono fun e W' ⟨v, he, hv, hE⟩ => ⟨v, he, ?_⟩
  subst hv
  exact law_post rfl hW hE rfl (by kernel_rfl) Tryd.underlying4 laid_ (by kernel_rfl)
theorem segmentScans_said : Rows.SegmentScansSaid :=
  OpenClaim.holds_of_wide 10 Tryd.f10 rfl rfl rfl rfl rfl rfl rfl ⟨rfl, rfl, rfl, rfl, rfl⟩ rfl rfl rfl rfl rfl (by kernel_rfl) Tryd.func10 (by kernel_rfl)
    (of_decide_eq_true (by kernel_rfl)) (by unfold Func.isWrapper; first | (rw [if_pos (by decide +kernel)]; kernel_rfl) | (rw [if_neg (by decide +kernel)]; exact ⟨rfl, rfl⟩))
    (fun os started H enc _ => segmentScans_lifted os started H enc)
theorem segmentScans_holds : Rows.SegmentScansCardSaid :=
  Claim7.holds_tied_plain_at .later [] [.data] true (true, "9bdefd4ab56ad6846b860e456533c8c9234d832d0db0c11e5e7191fbced85786") false segmentScans_said (fun _ h => by cases h) (by kernel_rfl) (fun _ h => by cases h) segmentScans_row_tie rfl ⟨rfl, rfl⟩ (by kernel_rfl) rfl
    (fun f fn hf hfn => by
      obtain rfl : f = 10 := Option.some.inj ((show Tryd.prog.funcNamed "trug/truglaw12.SegmentScans" = some 10 by kernel_rfl).symm.trans hf) |>.symm
      obtain rfl : fn = Tryd.f10 := (Option.some.inj (Tryd.func10.symm.trans hfn)).symm
      exact ⟨by kernel_rfl, fun j t ht => by
        have hm : t ∈ Tryd.f10.params.toList := by simpa using Array.mem_of_getElem? ht
        have hall : (Tryd.f10.params.toList.all fun u => !Tryd.prog.wantsStandIn u) = true := by kernel_rfl
        exact (show Tryd.prog.wantsStandIn t = false by simpa using List.all_eq_true.1 hall t hm)⟩)
    (by kernel_rfl)
end Go.Proofs.YtajfhoeejeadkaaDoor

