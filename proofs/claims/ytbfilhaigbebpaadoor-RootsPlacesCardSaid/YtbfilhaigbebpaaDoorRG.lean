/- Contracts of Go functions that the laws reach: what each call answers and leaves in memory, for all arguments within the bounds that each theorem names. -/
import Derived.Test.YtbfilhaigbebpaaDoorInst
import Derived.Test.YtbfilhaigbebpaaDoorAuto
import Derived.Test.YtbfilhaigbebpaaDoorRD
import Derived.Test.YtbfilhaigbebpaaDoorQG
import Derived.Test.YtbfilhaigbebpaaDoorQ7
set_option linter.unusedVariables false
set_option linter.unusedSimpArgs false
set_option maxRecDepth 100000
set_option maxHeartbeats 4000000
namespace Go.Tg
open Go Go.Proofs
theorem r15_EncodeB (s : SlotT) (h0 : FH) (w : World) (hs : Sat h0 w) :
    Spec Tryd.prog 19 #[.agg (cSlot s).toArray] w [] h0 (fun v h' L' => ∃ a' c', v = .slice a' (encS s).length c' ∧ h' = h0 ∧ L' = [own8 v 5 (encS s)]) :=
  (r15_Encode s h0 w hs).mono fun v h' L' ⟨a', c', h1, h2, h3⟩ => ⟨a', c', h1, h2, by rw [h1]; exact h3⟩
def rowsK (f : List UInt8) (k : Nat) : List (List Value) := (List.range k).map fun i => nV (vK f i)
theorem rowsK_succ (f : List UInt8) (k : Nat) : rowsK f (k + 1) = rowsK f k ++ [nV (vK f k)] := by simp [rowsK, List.range_succ]
theorem rowsK_len (f : List UInt8) (k : Nat) : (rowsK f k).length = k := by simp [rowsK]
theorem rowsK_one (f : List UInt8) (k : Nat) : ∀ r, r ∈ rowsK f k → r.length = 1 := by
  intro r hr
  simp only [rowsK, List.mem_map] at hr
  obtain ⟨i, -, rfl⟩ := hr; rfl
theorem r15_decode (h0 : FH) (a : Option Addr) (c : Nat) (b : List UInt8) (w : World) (hs : Sat h0 w) (hr : BS h0 a c b) (hb : b.length ≤ 1000000) :
    Spec Tryd.prog 31 #[.slice a b.length c] w [] h0 (fun v h' L' => h' = h0 ∧ L' = [] ∧ ∃ x q, v = .tuple #[.agg (cSlot x).toArray, .bool q] ∧ DecS b x q) := by
  have H := St.start hs
  have hFF := r10_First h0 a c b
  have hE := fun i hi he => @decS_err b (firstF b).1 (firstF b).2.1 (firstF b).2.2 i rfl hi he
  have hK := @decS_K b (firstF b).1 (firstF b).2.1 (firstF b).2.2 rfl
  have hfl := firstF_len b
  have lz : cSlot zeroS = [Value.int .u64 0, .int .u32 0, .int .u32 0, .int .u32 0] := rfl
  generalize firstF b = F at hFF hE hK hfl
  obtain ⟨f, k, e⟩ := F
  dsimp only at hFF hE hK hfl
  unfold Spec
  refine calls_of Tryd.func31 rfl Tryd.ntmps31 (by simp) ?_
  repeat' (first | ((first | refine WL.p rfl ?_ | refine WL.u ?_ | refine WL.g rfl rfl ?_ | refine WL.gu rfl ?_); first | (refine opk 1 rfl ?_; (refine ost_Sk H rfl (hFF _ H.sat hr (by omega)) rfl ?_; clear H; rintro vk wk hfk Lk ⟨a1, c1, rfl, e9, rfl, hr1⟩ hle H; simp only [List.cons_append, List.nil_append] at H)) | (refine opk 9 rfl ?_; (refine ost_buildS rfl (evP1 (rfl : _ = Value.slice _ _ _)) rfl (rfl : _ = [_, _]) ?_)) | refine pvQ ?_ | (refine opk 3 rfl ?_; first | (refine ost_cmp rfl rfl rfl rfl (fun hc => ?_) (fun hc => ?_) <;> (simp only [cmpP] at hc; try exact prIQ)) | (refine ost_streqB rfl rfl rfl (fun hc => ?_) (fun hc => ?_) <;> try exact prEQ) | (refine ost_strneB rfl rfl rfl (fun hc => ?_) (fun hc => ?_) <;> try exact prEQ) | (refine ost_streq rfl rfl rfl (fun hc => ?_) (fun hc => ?_) <;> try exact absurd rfl hc) | (refine ost_strne rfl rfl rfl (fun hc => ?_) (fun hc => ?_))) | (refine opk 4 rfl ?_; (refine ost_cmp rfl rfl rfl rfl (fun hc => ?_) (fun hc => ?_) <;> (simp only [cmpP] at hc; try exact prIQ))) | (refine opk 8 rfl ?_; (refine ost_storeW H rfl rfl rfl rfl lQ ixQ lQ okQ ?_; clear H; intro wk H; simp only [List.set_cons_zero, List.set_cons_succ, Nat.reduceAdd] at H)) | (refine opk 9 rfl ?_; first | (refine ost_allocA H rfl ?_; clear H; intro bk wk H) | (refine ost_build1 H rfl rfl rfl evQ lsQ rfl ?_; clear H; intro bk wk H))) | refine Wc.seq ?_ | refine then_n ?_ | refine WL.nil ?_ | refine Wc.region ?_ | refine Wc.block ?_ | refine then_r ?_ | refine then_e ?_ | refine inb_e rfl ?_ | refine inb_o rfl ?_ | refine inb_n ?_ | refine inb_r ?_ | refine Wc.skip ?_ | refine Wc.exit ?_ | refine Wc.ret ?_ | refine Wc.cond_true rfl ?_ | refine Wc.cond_false rfl ?_ | (refine Wc.drawn (id := 12) 17 (by kernel_rfl) ?_) | (refine Wc.drawn (id := 13) 12 (by kernel_rfl) ?_) | refine WL.skp rfl rfl ?_ | refine WL.sku rfl ?_ | (refine rgs_nil ?_; intro vs wk hE; replace H := H.ext hE; clear hE) | refine RGs.skp (fun _ => rfl) rfl ?_ | (refine RGs.bq (fun _ => rfl) rfl (by intro vs w hE hP; have H := H.ext hE; first | exact dbQ | fail) (fun hc => ?_) (fun hc => ?_) <;> ((try simp only [cmpP, decide_eq_true_eq, decide_eq_false_iff_not, dcd_iff, dcd_no] at hc); try exact prDQ)) | refine RGs.pq (fun _ => rfl) rfl (by intro vs w hE hP; have H := H.ext hE; first | exact dvQ | fail) ?_)
  replace e9 := e9.symm
  subst e9
  obtain ⟨b7, eb7⟩ := H.nameB idx0
  subst eb7
  obtain ⟨bs, ebs⟩ := H.nameB idx1
  subst ebs
  replace H : St w [] h0 h0 [ownR (.slice none (rowsK f 0).length 0) 23 1 (rowsK f 0), .blk b7 (.cells [Value.slice a1 (xsK f 0).length c1, .int .i64 0].toArray 146 (0, 0)), .blk bs (.cells (cSlot zeroS).toArray 34 (0, 0))] _ := H.nilOwn 23 1
  replace hr1 : BS h0 a1 c1 (xsK f 0) := hr1
  refine Wc.loopE (fun s0 m s w' => ∃ (k : Nat) (a1 : Option Addr) (c1 : Nat) (an : Option Addr) (cn : Nat), m = 4 - k ∧ k ≤ 4 ∧ Agree [3, 8, 9, 10, 11, 12, 22, 23, 24, 25, 26, 27, 28, 29, 30, 31, 32, 33, 34, 35, 36, 37, 38, 39] s s0 ∧ s 8 = .slice an (rowsK f k).length cn ∧ s 9 = .int .i64 k ∧ BS h0 a1 c1 (xsK f k) ∧
    St w [] h0 h0 [ownR (.slice an (rowsK f k).length cn) 23 1 (rowsK f k), .blk b7 (.cells [Value.slice a1 (xsK f k).length c1, .int .i64 0].toArray 146 (0, 0)), .blk bs (.cells (cSlot zeroS).toArray 34 (0, 0))] w') 4 ⟨0, _, _, _, _, rfl, by omega, Agree.refl _ _, rfl, rfl, hr1, H⟩ ?_
  clear H hr1
  rintro m s w' ⟨k, a1, c1, an, cn, rfl, hk, hA, e1, e2, hr1, H⟩
  obtain ⟨j, rfl⟩ := hA.env2 e1 e2
  clear hA e1 e2
  have hrl := rowsK_len f k
  by_cases hlt : k < 4
  · have hE1 := hE k hlt
    have hsu := rowsK_succ f k
    have hN := fun w hs => r3_Num h0 w hs a1 c1 (xsK f k) 0 hr1
    have hx1 : xsK f (k + 1) = (numE 0 (xsK f k)).2.2.2 := rfl
    have hv1 : nV (vK f k) = [Value.int .u64 ((numE 0 (xsK f k)).1 : Nat)] := rfl
    have hok := @numE_ok 0 (xsK f k)
    by_cases he : (numE 0 (xsK f k)).2.1 = 0
    · have he2 := hok he
      rw [he2, he] at hN
      rw [hv1] at hsu
      generalize numE 0 (xsK f k) = U at *
      repeat' (first | ((first | refine WL.p rfl ?_ | refine WL.u ?_ | refine WL.g rfl rfl ?_ | refine WL.gu rfl ?_); first | (refine opk 1 rfl ?_; first | (refine ost_Sk H rfl (hN _ H.sat) rfl ?_; clear H; rintro vk wk hfk Lk ⟨a3, c3, rfl, e9, rfl, hr3⟩ hle H; simp only [List.cons_append, List.nil_append] at H) | (refine ost_appR (rows := rowsK f k) (row := [Value.int .u64 (U.1 : Nat)]) H rfl rfl rfl (by (exact ixQ)) (by (exact ixQ)) (by rfl) (by first | simp; done | exact Nat.succ_pos _) rfl (allOne_of rfl) rfl (by omega) ?_; clear H; intro aa ca wk H; simp only [List.set_cons_zero, List.set_cons_succ] at H)) | (refine opk 9 rfl ?_; first | (refine ost_buildS rfl evP_nil rfl (rfl : _ = [_, _, _, _]) ?_) | (refine ost_buildR (rows := [[Value.int .u64 (U.1 : Nat)]]) H rfl (by decide) rfl (by rfl) (evP1 vxQ) (.cons rfl .nil) rfl (fun r hr => by rw [List.mem_singleton.1 hr]; rfl) ?_; clear H; intro bk wk H)) | refine pvQ ?_ | (refine opk 3 rfl ?_; first | (refine ost_cmp rfl rfl rfl rfl (fun hc => ?_) (fun hc => ?_) <;> (simp only [cmpP] at hc; try exact prIQ)) | (refine ost_streqB rfl rfl rfl (fun hc => ?_) (fun hc => ?_) <;> try exact prEQ) | (refine ost_strneB rfl rfl rfl (fun hc => ?_) (fun hc => ?_) <;> try exact prEQ) | (refine ost_streq rfl rfl rfl (fun hc => ?_) (fun hc => ?_) <;> try exact absurd rfl hc) | (refine ost_strne rfl rfl rfl (fun hc => ?_) (fun hc => ?_))) | (refine opk 4 rfl ?_; (refine ost_cmp rfl rfl rfl rfl (fun hc => ?_) (fun hc => ?_) <;> (simp only [cmpP] at hc; try exact prIQ))) | (refine opk 8 rfl ?_; (refine ost_storeW H rfl rfl rfl rfl lQ ixQ lQ okQ ?_; clear H; intro wk H; simp only [List.set_cons_zero, List.set_cons_succ, Nat.reduceAdd] at H)) | (refine opk 9 rfl ?_; first | (refine ost_allocA H rfl ?_; clear H; intro bk wk H) | (refine ost_build1 H rfl rfl rfl evQ lsQ rfl ?_; clear H; intro bk wk H))) | refine Wc.seq ?_ | refine then_n ?_ | refine WL.nil ?_ | refine Wc.region ?_ | refine Wc.block ?_ | refine then_r ?_ | refine then_e ?_ | refine inb_e rfl ?_ | refine inb_o rfl ?_ | refine inb_n ?_ | refine inb_r ?_ | refine Wc.skip ?_ | refine Wc.exit ?_ | refine Wc.ret ?_ | refine Wc.cond_true rfl ?_ | refine Wc.cond_false rfl ?_ | (refine Wc.drawn (id := 12) 17 (by kernel_rfl) ?_) | (refine Wc.drawn (id := 13) 12 (by kernel_rfl) ?_) | refine WL.skp rfl rfl ?_ | refine WL.sku rfl ?_ | (refine rgs_nil ?_; intro vs wk hE; replace H := H.ext hE; clear hE) | refine RGs.skp (fun _ => rfl) rfl ?_ | (refine RGs.bq (fun _ => rfl) rfl (by intro vs w hE hP; have H := H.ext hE; first | exact dbQ | fail) (fun hc => ?_) (fun hc => ?_) <;> ((try simp only [cmpP, decide_eq_true_eq, decide_eq_false_iff_not, dcd_iff, dcd_no] at hc); try exact prDQ)) | refine RGs.pq (fun _ => rfl) rfl (by intro vs w hE hP; have H := H.ext hE; first | exact dvQ | fail) ?_)
      replace e9 := e9.symm
      subst e9
      rw [← hsu] at H
      exact ⟨4 - (k + 1), by omega, k + 1, a3, c3, _, _, rfl, by omega, by (repeat' (first | exact Agree.refl _ _ | exact Agree.havoc | refine Agree.upd rfl ?_ | refine Agree.hav2 rfl ?_)), by rw [hsu]; rfl, rfl, by rw [hx1]; exact hr3, by rw [hx1]; exact H.picks [2, 3, 4] rfl (by decide)⟩
    · have hz := hE1 he
      generalize numE 0 (xsK f k) = U at *
      repeat' (first | ((first | refine WL.p rfl ?_ | refine WL.u ?_ | refine WL.g rfl rfl ?_ | refine WL.gu rfl ?_); first | (refine opk 1 rfl ?_; (refine ost_Sk H rfl (hN _ H.sat) rfl ?_; clear H; rintro vk wk hfk Lk ⟨a3, c3, rfl, e9, rfl, hr3⟩ hle H; simp only [List.cons_append, List.nil_append] at H)) | (refine opk 9 rfl ?_; (refine ost_buildS rfl evP_nil rfl (rfl : _ = [_, _, _, _]) ?_)) | refine pvQ ?_ | (refine opk 3 rfl ?_; first | (refine ost_cmp rfl rfl rfl rfl (fun hc => ?_) (fun hc => ?_) <;> (simp only [cmpP] at hc; try exact prIQ)) | (refine ost_streqB rfl rfl rfl (fun hc => ?_) (fun hc => ?_) <;> try exact prEQ) | (refine ost_strneB rfl rfl rfl (fun hc => ?_) (fun hc => ?_) <;> try exact prEQ) | (refine ost_streq rfl rfl rfl (fun hc => ?_) (fun hc => ?_) <;> try exact absurd rfl hc) | (refine ost_strne rfl rfl rfl (fun hc => ?_) (fun hc => ?_))) | (refine opk 4 rfl ?_; (refine ost_cmp rfl rfl rfl rfl (fun hc => ?_) (fun hc => ?_) <;> (simp only [cmpP] at hc; try exact prIQ))) | (refine opk 8 rfl ?_; (refine ost_storeW H rfl rfl rfl rfl lQ ixQ lQ okQ ?_; clear H; intro wk H; simp only [List.set_cons_zero, List.set_cons_succ, Nat.reduceAdd] at H)) | (refine opk 9 rfl ?_; first | (refine ost_allocA H rfl ?_; clear H; intro bk wk H) | (refine ost_build1 H rfl rfl rfl evQ lsQ rfl ?_; clear H; intro bk wk H))) | refine Wc.seq ?_ | refine then_n ?_ | refine WL.nil ?_ | refine Wc.region ?_ | refine Wc.block ?_ | refine then_r ?_ | refine then_e ?_ | refine inb_e rfl ?_ | refine inb_o rfl ?_ | refine inb_n ?_ | refine inb_r ?_ | refine Wc.skip ?_ | refine Wc.exit ?_ | refine Wc.ret ?_ | refine Wc.cond_true rfl ?_ | refine Wc.cond_false rfl ?_ | (refine Wc.drawn (id := 12) 17 (by kernel_rfl) ?_) | (refine Wc.drawn (id := 13) 12 (by kernel_rfl) ?_) | refine WL.skp rfl rfl ?_ | refine WL.sku rfl ?_ | (refine rgs_nil ?_; intro vs wk hE; replace H := H.ext hE; clear hE) | refine RGs.skp (fun _ => rfl) rfl ?_ | (refine RGs.bq (fun _ => rfl) rfl (by intro vs w hE hP; have H := H.ext hE; first | exact dbQ | fail) (fun hc => ?_) (fun hc => ?_) <;> ((try simp only [cmpP, decide_eq_true_eq, decide_eq_false_iff_not, dcd_iff, dcd_no] at hc); try exact prDQ)) | refine RGs.pq (fun _ => rfl) rfl (by intro vs w hE hP; have H := H.ext hE; first | exact dvQ | fail) ?_)
      all_goals first | exact fn_ret2 (v2 := .bool _) rfl (rv_cellA rfl rfl H.bI lQ) rfl ⟨_, _, H.picks [] rfl (by decide), e9, rfl, zeroS, false, rfl, .inr ⟨rfl, hz⟩⟩ | (exfalso; omega)
  · obtain rfl : k = 4 := by omega
    obtain ⟨ar, cr, h7, e7, hle7, hN7, H7⟩ := H.freezeR (rowsK_one f 4)
    clear H
    have H := H7
    clear H7
    rw [hrl] at e7
    cases e7
    rw [hrl]
    obtain ⟨bq, off, L9, T, fr, e2, eb, eg⟩ := hN7.get (by decide) (i := 0) (by rw [hrl]; omega)
    subst e2
    have g0 : L9[off + (0 : Int).toNat * 1]? = some (.int .u64 (vK f 0 : Nat)) := row_cell (row := nV (vK f 0)) (eg 0 (by rw [hrl]; omega)) (q := 0) (by simp [nV])
    have g1 : L9[off + (1 : Int).toNat * 1]? = some (.int .u64 (vK f 1 : Nat)) := row_cell (row := nV (vK f 1)) (eg 1 (by rw [hrl]; omega)) (q := 0) (by simp [nV])
    have g2 : L9[off + (2 : Int).toNat * 1]? = some (.int .u64 (vK f 2 : Nat)) := row_cell (row := nV (vK f 2)) (eg 2 (by rw [hrl]; omega)) (q := 0) (by simp [nV])
    have g3 : L9[off + (3 : Int).toNat * 1]? = some (.int .u64 (vK f 3 : Nat)) := row_cell (row := nV (vK f 3)) (eg 3 (by rw [hrl]; omega)) (q := 0) (by simp [nV])
    clear eg
    have hS : [Value.int .u64 (vK f 0 : Nat), .int .u32 (IntKind.u32.wrap (vK f 1 : Int)), .int .u32 (IntKind.u32.wrap (vK f 2 : Int)), .int .u32 (IntKind.u32.wrap (vK f 3 : Int))] = cSlot (slotK f) := by
      have h64 := numE_lt 0 (xsK f 0)
      unfold cSlot slotK
      rw [u32_1, u32_1, u32_1]
      congr 2
      unfold vK; simp; omega
    generalize vK f 0 = v0 at g0 hS
    generalize vK f 1 = v1 at g1 hS
    generalize vK f 2 = v2 at g2 hS
    generalize vK f 3 = v3 at g3 hS
    have lS := cSlot_len (slotK f)
    repeat' (first | ((first | refine WL.p rfl ?_ | refine WL.u ?_ | refine WL.g rfl rfl ?_ | refine WL.gu rfl ?_); first | refine pvQ ?_ | (refine opk 3 rfl ?_; first | (refine ost_cmp rfl rfl rfl rfl (fun hc => ?_) (fun hc => ?_) <;> (simp only [cmpP] at hc; try exact prIQ)) | (refine ost_streqB rfl rfl rfl (fun hc => ?_) (fun hc => ?_) <;> try exact prEQ) | (refine ost_strneB rfl rfl rfl (fun hc => ?_) (fun hc => ?_) <;> try exact prEQ) | (refine ost_streq rfl rfl rfl (fun hc => ?_) (fun hc => ?_) <;> try exact absurd rfl hc) | (refine ost_strne rfl rfl rfl (fun hc => ?_) (fun hc => ?_))) | (refine opk 4 rfl ?_; (refine ost_cmp rfl rfl rfl rfl (fun hc => ?_) (fun hc => ?_) <;> (simp only [cmpP] at hc; try exact prIQ))) | (refine opk 8 rfl ?_; (refine ost_storeW H rfl rfl rfl rfl lQ ixQ lQ okQ ?_; clear H; intro wk H; simp only [List.set_cons_zero, List.set_cons_succ, Nat.reduceAdd] at H)) | (refine opk 9 rfl ?_; first | (refine ost_allocA H rfl ?_; clear H; intro bk wk H) | (refine ost_build1 H rfl rfl rfl evQ lsQ rfl ?_; clear H; intro bk wk H))) | refine Wc.seq ?_ | refine then_n ?_ | refine WL.nil ?_ | refine Wc.region ?_ | refine Wc.block ?_ | refine then_r ?_ | refine then_e ?_ | refine inb_e rfl ?_ | refine inb_o rfl ?_ | refine inb_n ?_ | refine inb_r ?_ | refine Wc.skip ?_ | refine Wc.exit ?_ | refine Wc.ret ?_ | refine Wc.cond_true rfl ?_ | refine Wc.cond_false rfl ?_ | refine WL.skp rfl rfl ?_ | refine WL.sku rfl ?_ | (refine Wc.drawM (id := 12) 17 [(16, [], fun v L' => ∃ b, v = pt b ∧ L' = [.blk b (.cells (cSlot zeroS).toArray 34 (0, 0))])] [.blk _ _, .blk _ _] [16] H (by kernel_rfl) rfl (by kernel_rfl) (by simp only [inpL, List.nil_append, List.cons_append, List.append_nil]; first | exact List.Perm.refl _ | exact List.Perm.swap _ _ _ | exact (List.Perm.swap _ _ _).trans ((List.Perm.swap _ _ _).cons _) | exact ((List.Perm.swap _ _ _).cons _) | exact ((List.Perm.swap _ _ _).cons _).trans (List.Perm.swap _ _ _)) ?_) | (refine rgm_nil ?_; intro vs wk outs HM hR; obtain ⟨v9, ⟨b9_16, e9, o9⟩, h9⟩ := hR 16 _ rfl; have hv9 : vs (0 + 1 + 1 + 1 + 1 + 1 + 1 + 1 + 1 + 1 + 1 + 1 + 1 + 1 + 1 + 1 + 1) = _ := (h9 (by kernel_rfl)).trans e9; simp only [outsL, o9, List.cons_append, List.nil_append, List.append_nil] at HM; (try dsimp only); rw [hv9]; replace H := HM; clear HM hR) | refine RGm.skp (fun _ => rfl) rfl ?_ | (refine RGm.bq (fun _ => rfl) rfl (by intro vs w TT hP H; simp only [List.cons_append, List.nil_append] at H; first | exact dbQ | fail) (fun hc => ?_) (fun hc => ?_) <;> ((try simp only [cmpP, decide_eq_true_eq, decide_eq_false_iff_not, dcd_iff, dcd_no] at hc); try exact prDQ)) | refine RGm.pq (fun _ => rfl) rfl (by intro vs w TT hP H; simp only [List.cons_append, List.nil_append] at H; first | exact dvQ | fail) ?_ | refine RGm.mq (fun _ => rfl) rfl (by intro vs w TT hP H; simp only [List.cons_append, List.nil_append] at H; first | (refine ost_allocA H rfl ?_; intro bk wk H2; exact ⟨[_], ⟨_, rfl, rfl⟩, H2⟩) | fail) ?_ | refine RGm.mu rfl (by intro vs w TT hP H; simp only [List.cons_append, List.nil_append] at H; first | (refine ost_allocA H rfl ?_; intro bk wk H2; exact ⟨[_], ⟨_, rfl, rfl⟩, H2⟩) | fail) ?_)
    rw [hS] at H
    have hB := fun h w hs => r15_EncodeB (slotK f) h w hs
    clear hv9 o9 e9 h9
    have hfin : ∀ x q, DecS b x q → ∀ {w' : World} {L : List HA}, St w [] h0 h7 L w' → ∃ h' L', St w [] h0 h' L' w' ∧ (h' = h0 ∧ L' = [] ∧ ∃ x' q', Value.tuple #[.agg (cSlot x).toArray, .bool q] = .tuple #[.agg (cSlot x').toArray, .bool q'] ∧ DecS b x' q') := fun x q hd w' L H =>
      ⟨h0, _, (H.forget hle7 fun _ _ _ => rfl).picks [] rfl (by decide), rfl, rfl, x, q, rfl, hd⟩
    have hr7 := hr.mono hle7
    by_cases hce : e = 0
    · by_cases hcb : encS (slotK f) = b
      · repeat' (first | ((first | refine WL.p rfl ?_ | refine WL.u ?_ | refine WL.g rfl rfl ?_ | refine WL.gu rfl ?_); first | refine pvQ ?_ | (refine opk 3 rfl ?_; first | (refine ost_cmp rfl rfl rfl rfl (fun hc => ?_) (fun hc => ?_) <;> (simp only [cmpP] at hc; try exact prIQ)) | (refine ost_streqB rfl rfl rfl (fun hc => ?_) (fun hc => ?_) <;> try exact prEQ) | (refine ost_strneB rfl rfl rfl (fun hc => ?_) (fun hc => ?_) <;> try exact prEQ) | (refine ost_streq rfl rfl rfl (fun hc => ?_) (fun hc => ?_) <;> try exact absurd rfl hc) | (refine ost_strne rfl rfl rfl (fun hc => ?_) (fun hc => ?_))) | (refine opk 4 rfl ?_; (refine ost_cmp rfl rfl rfl rfl (fun hc => ?_) (fun hc => ?_) <;> (simp only [cmpP] at hc; try exact prIQ))) | (refine opk 8 rfl ?_; (refine ost_storeW H rfl rfl rfl rfl lQ ixQ lQ okQ ?_; clear H; intro wk H; simp only [List.set_cons_zero, List.set_cons_succ, Nat.reduceAdd] at H)) | (refine opk 9 rfl ?_; first | (refine ost_allocA H rfl ?_; clear H; intro bk wk H) | (refine ost_build1 H rfl rfl rfl evQ lsQ rfl ?_; clear H; intro bk wk H))) | refine Wc.seq ?_ | refine then_n ?_ | refine WL.nil ?_ | refine Wc.region ?_ | refine Wc.block ?_ | refine then_r ?_ | refine then_e ?_ | refine inb_e rfl ?_ | refine inb_o rfl ?_ | refine inb_n ?_ | refine inb_r ?_ | refine Wc.skip ?_ | refine Wc.exit ?_ | refine Wc.ret ?_ | refine Wc.cond_true rfl ?_ | refine Wc.cond_false rfl ?_ | (refine Wc.drawn (id := 12) 17 (by kernel_rfl) ?_) | refine WL.skp rfl rfl ?_ | refine WL.sku rfl ?_ | (refine rgs_nil ?_; intro vs wk hE; replace H := H.ext hE; clear hE) | refine RGs.skp (fun _ => rfl) rfl ?_ | (refine RGs.bq (fun _ => rfl) rfl (by intro vs w hE hP; have H := H.ext hE; first | exact dbQ | fail) (fun hc => ?_) (fun hc => ?_) <;> ((try simp only [cmpP, decide_eq_true_eq, decide_eq_false_iff_not, dcd_iff, dcd_no] at hc); try exact prDQ)) | refine RGs.pq (fun _ => rfl) rfl (by intro vs w hE hP; have H := H.ext hE; first | (refine opk 6 rfl ?_; first | (refine ost_toStrN (xs := b) rfl rfl (by first | rfl | (simp; omega)) (hr7.full H) ?_; exact ⟨Fr.refl _ _, rfl⟩) | (refine ost_toStrV rfl (pm_B (xs := encS (slotK f)) hP 5 (by kernel_rfl) rfl rfl (by rintro _ _ ⟨a9, c9, rfl, rfl⟩; exact ⟨a9, c9, rfl, rfl⟩) H (by intro A9 h9; simp [h9])) ?_; exact ⟨Fr.refl _ _, rfl⟩)) | exact dvQ | fail) ?_ | (refine Wc.drawM (id := 13) 12 [(5, [], fun v L' => ∃ a c, v = .slice a (encS (slotK f)).length c ∧ L' = [own8 v 5 (encS (slotK f))]), (11, [.blk bs (.cells (cSlot zeroS).toArray 34 (0, 0))], fun v L' => L' = [.blk bs (.cells (cSlot (slotK f)).toArray 34 (0, 0))])] [.blk _ _, .blk _ _] [5, 11] H (by kernel_rfl) rfl (by kernel_rfl) (by simp only [inpL, List.nil_append, List.cons_append, List.append_nil]; first | exact List.Perm.refl _ | exact List.Perm.swap _ _ _ | exact (List.Perm.swap _ _ _).trans ((List.Perm.swap _ _ _).cons _) | exact ((List.Perm.swap _ _ _).cons _) | exact ((List.Perm.swap _ _ _).cons _).trans (List.Perm.swap _ _ _)) ?_) | (refine rgm_nil ?_; intro vs wk outs HM hR; obtain ⟨v5, ⟨a5, c5, e5, o5⟩, h5⟩ := hR 5 _ rfl; obtain ⟨v11, o11, h11⟩ := hR 11 _ rfl; (try dsimp only at o11); simp only [outsL, o5, o11, List.cons_append, List.nil_append, List.append_nil] at HM; (try dsimp only); replace H := HM; clear HM hR) | refine RGm.skp (fun _ => rfl) rfl ?_ | (refine RGm.bq (fun _ => rfl) rfl (by intro vs w TT hP H; simp only [List.cons_append, List.nil_append] at H; first | exact dbQ | fail) (fun hc => ?_) (fun hc => ?_) <;> ((try simp only [cmpP, decide_eq_true_eq, decide_eq_false_iff_not, dcd_iff, dcd_no] at hc); try exact prDQ)) | refine RGm.pq (fun _ => rfl) rfl (by intro vs w TT hP H; simp only [List.cons_append, List.nil_append] at H; first | (refine opk 6 rfl ?_; first | (refine ost_toStrN (xs := b) rfl rfl (by first | rfl | (simp; omega)) (hr7.full H) ?_; exact ⟨Fr.refl _ _, rfl⟩) | (refine ost_toStrV rfl (pm_B (xs := encS (slotK f)) hP 5 (by kernel_rfl) rfl rfl (by rintro _ _ ⟨a9, c9, rfl, rfl⟩; exact ⟨a9, c9, rfl, rfl⟩) H (by intro A9 h9; simp [h9])) ?_; exact ⟨Fr.refl _ _, rfl⟩)) | exact dvQ | fail) ?_ | refine RGm.mq (fun _ => rfl) rfl (by intro vs w TT hP H; simp only [List.cons_append, List.nil_append] at H; first | (refine ost_C H rfl (hB _ _ (sat_full _)) rfl ?_; rintro vk wk hfk Lk ⟨a9, c9, rfl, -, rfl⟩ H2; exact ⟨[_], ⟨a9, c9, rfl, rfl⟩, H2⟩) | (refine ost_storeW (i := 0) (vs := cSlot (slotK f)) H rfl rfl rfl rfl lS rfl rfl (allOne_of rfl) ?_; intro wk H2; simp only [List.set_cons_zero, List.set_cons_succ] at H2; exact ⟨[_], rfl, H2⟩) | fail) ?_ | refine RGm.mu rfl (by intro vs w TT hP H; simp only [List.cons_append, List.nil_append] at H; first | (refine ost_C H rfl (hB _ _ (sat_full _)) rfl ?_; rintro vk wk hfk Lk ⟨a9, c9, rfl, -, rfl⟩ H2; exact ⟨[_], ⟨a9, c9, rfl, rfl⟩, H2⟩) | (refine ost_storeW (i := 0) (vs := cSlot (slotK f)) H rfl rfl rfl rfl lS rfl rfl (allOne_of rfl) ?_; intro wk H2; simp only [List.set_cons_zero, List.set_cons_succ] at H2; exact ⟨[_], rfl, H2⟩) | fail) ?_)
        all_goals first | exact fn_ret2 (v2 := .bool _) rfl (rv_cellA rfl rfl H.bI lQ) rfl (hfin _ _ (.inl ⟨rfl, hcb⟩) H) | (exfalso; omega)
      · repeat' (first | ((first | refine WL.p rfl ?_ | refine WL.u ?_ | refine WL.g rfl rfl ?_ | refine WL.gu rfl ?_); first | refine pvQ ?_ | (refine opk 3 rfl ?_; first | (refine ost_cmp rfl rfl rfl rfl (fun hc => ?_) (fun hc => ?_) <;> (simp only [cmpP] at hc; try exact prIQ)) | (refine ost_streqB rfl rfl rfl (fun hc => ?_) (fun hc => ?_) <;> try exact prEQ) | (refine ost_strneB rfl rfl rfl (fun hc => ?_) (fun hc => ?_) <;> try exact prEQ) | (refine ost_streq rfl rfl rfl (fun hc => ?_) (fun hc => ?_) <;> try exact absurd rfl hc) | (refine ost_strne rfl rfl rfl (fun hc => ?_) (fun hc => ?_))) | (refine opk 4 rfl ?_; (refine ost_cmp rfl rfl rfl rfl (fun hc => ?_) (fun hc => ?_) <;> (simp only [cmpP] at hc; try exact prIQ))) | (refine opk 8 rfl ?_; (refine ost_storeW H rfl rfl rfl rfl lQ ixQ lQ okQ ?_; clear H; intro wk H; simp only [List.set_cons_zero, List.set_cons_succ, Nat.reduceAdd] at H)) | (refine opk 9 rfl ?_; first | (refine ost_allocA H rfl ?_; clear H; intro bk wk H) | (refine ost_build1 H rfl rfl rfl evQ lsQ rfl ?_; clear H; intro bk wk H))) | refine Wc.seq ?_ | refine then_n ?_ | refine WL.nil ?_ | refine Wc.region ?_ | refine Wc.block ?_ | refine then_r ?_ | refine then_e ?_ | refine inb_e rfl ?_ | refine inb_o rfl ?_ | refine inb_n ?_ | refine inb_r ?_ | refine Wc.skip ?_ | refine Wc.exit ?_ | refine Wc.ret ?_ | refine Wc.cond_true rfl ?_ | refine Wc.cond_false rfl ?_ | (refine Wc.drawn (id := 12) 17 (by kernel_rfl) ?_) | refine WL.skp rfl rfl ?_ | refine WL.sku rfl ?_ | (refine rgs_nil ?_; intro vs wk hE; replace H := H.ext hE; clear hE) | refine RGs.skp (fun _ => rfl) rfl ?_ | (refine RGs.bq (fun _ => rfl) rfl (by intro vs w hE hP; have H := H.ext hE; first | exact dbQ | fail) (fun hc => ?_) (fun hc => ?_) <;> ((try simp only [cmpP, decide_eq_true_eq, decide_eq_false_iff_not, dcd_iff, dcd_no] at hc); try exact prDQ)) | refine RGs.pq (fun _ => rfl) rfl (by intro vs w hE hP; have H := H.ext hE; first | (refine opk 6 rfl ?_; first | (refine ost_toStrN (xs := b) rfl rfl (by first | rfl | (simp; omega)) (hr7.full H) ?_; exact ⟨Fr.refl _ _, rfl⟩) | (refine ost_toStrV rfl (pm_B (xs := encS (slotK f)) hP 5 (by kernel_rfl) rfl rfl (by rintro _ _ ⟨a9, c9, rfl, rfl⟩; exact ⟨a9, c9, rfl, rfl⟩) H (by intro A9 h9; simp [h9])) ?_; exact ⟨Fr.refl _ _, rfl⟩)) | exact dvQ | fail) ?_ | (refine Wc.drawM (id := 13) 12 [(5, [], fun v L' => ∃ a c, v = .slice a (encS (slotK f)).length c ∧ L' = [own8 v 5 (encS (slotK f))]), (11, [.blk bs (.cells (cSlot zeroS).toArray 34 (0, 0))], fun v L' => L' = [.blk bs (.cells (cSlot (slotK f)).toArray 34 (0, 0))])] [.blk _ _, .blk _ _] [5, 11] H (by kernel_rfl) rfl (by kernel_rfl) (by simp only [inpL, List.nil_append, List.cons_append, List.append_nil]; first | exact List.Perm.refl _ | exact List.Perm.swap _ _ _ | exact (List.Perm.swap _ _ _).trans ((List.Perm.swap _ _ _).cons _) | exact ((List.Perm.swap _ _ _).cons _) | exact ((List.Perm.swap _ _ _).cons _).trans (List.Perm.swap _ _ _)) ?_) | (refine rgm_nil ?_; intro vs wk outs HM hR; obtain ⟨v5, ⟨a5, c5, e5, o5⟩, h5⟩ := hR 5 _ rfl; obtain ⟨v11, o11, h11⟩ := hR 11 _ rfl; (try dsimp only at o11); simp only [outsL, o5, o11, List.cons_append, List.nil_append, List.append_nil] at HM; (try dsimp only); replace H := HM; clear HM hR) | refine RGm.skp (fun _ => rfl) rfl ?_ | (refine RGm.bq (fun _ => rfl) rfl (by intro vs w TT hP H; simp only [List.cons_append, List.nil_append] at H; first | exact dbQ | fail) (fun hc => ?_) (fun hc => ?_) <;> ((try simp only [cmpP, decide_eq_true_eq, decide_eq_false_iff_not, dcd_iff, dcd_no] at hc); try exact prDQ)) | refine RGm.pq (fun _ => rfl) rfl (by intro vs w TT hP H; simp only [List.cons_append, List.nil_append] at H; first | (refine opk 6 rfl ?_; first | (refine ost_toStrN (xs := b) rfl rfl (by first | rfl | (simp; omega)) (hr7.full H) ?_; exact ⟨Fr.refl _ _, rfl⟩) | (refine ost_toStrV rfl (pm_B (xs := encS (slotK f)) hP 5 (by kernel_rfl) rfl rfl (by rintro _ _ ⟨a9, c9, rfl, rfl⟩; exact ⟨a9, c9, rfl, rfl⟩) H (by intro A9 h9; simp [h9])) ?_; exact ⟨Fr.refl _ _, rfl⟩)) | exact dvQ | fail) ?_ | refine RGm.mq (fun _ => rfl) rfl (by intro vs w TT hP H; simp only [List.cons_append, List.nil_append] at H; first | (refine ost_C H rfl (hB _ _ (sat_full _)) rfl ?_; rintro vk wk hfk Lk ⟨a9, c9, rfl, -, rfl⟩ H2; exact ⟨[_], ⟨a9, c9, rfl, rfl⟩, H2⟩) | (refine ost_storeW (i := 0) (vs := cSlot (slotK f)) H rfl rfl rfl rfl lS rfl rfl (allOne_of rfl) ?_; intro wk H2; simp only [List.set_cons_zero, List.set_cons_succ] at H2; exact ⟨[_], rfl, H2⟩) | fail) ?_ | refine RGm.mu rfl (by intro vs w TT hP H; simp only [List.cons_append, List.nil_append] at H; first | (refine ost_C H rfl (hB _ _ (sat_full _)) rfl ?_; rintro vk wk hfk Lk ⟨a9, c9, rfl, -, rfl⟩ H2; exact ⟨[_], ⟨a9, c9, rfl, rfl⟩, H2⟩) | (refine ost_storeW (i := 0) (vs := cSlot (slotK f)) H rfl rfl rfl rfl lS rfl rfl (allOne_of rfl) ?_; intro wk H2; simp only [List.set_cons_zero, List.set_cons_succ] at H2; exact ⟨[_], rfl, H2⟩) | fail) ?_)
        all_goals first | exact fn_ret2 (v2 := .bool _) rfl (rv_cellA rfl rfl H.bI lQ) rfl (hfin _ _ (.inr ⟨rfl, fun s hs => hcb (by rw [(hK s hs).2]; exact hs)⟩) H) | (exfalso; omega)
    · repeat' (first | ((first | refine WL.p rfl ?_ | refine WL.u ?_ | refine WL.g rfl rfl ?_ | refine WL.gu rfl ?_); first | refine pvQ ?_ | (refine opk 3 rfl ?_; first | (refine ost_cmp rfl rfl rfl rfl (fun hc => ?_) (fun hc => ?_) <;> (simp only [cmpP] at hc; try exact prIQ)) | (refine ost_streqB rfl rfl rfl (fun hc => ?_) (fun hc => ?_) <;> try exact prEQ) | (refine ost_strneB rfl rfl rfl (fun hc => ?_) (fun hc => ?_) <;> try exact prEQ) | (refine ost_streq rfl rfl rfl (fun hc => ?_) (fun hc => ?_) <;> try exact absurd rfl hc) | (refine ost_strne rfl rfl rfl (fun hc => ?_) (fun hc => ?_))) | (refine opk 4 rfl ?_; (refine ost_cmp rfl rfl rfl rfl (fun hc => ?_) (fun hc => ?_) <;> (simp only [cmpP] at hc; try exact prIQ))) | (refine opk 8 rfl ?_; (refine ost_storeW H rfl rfl rfl rfl lQ ixQ lQ okQ ?_; clear H; intro wk H; simp only [List.set_cons_zero, List.set_cons_succ, Nat.reduceAdd] at H)) | (refine opk 9 rfl ?_; first | (refine ost_allocA H rfl ?_; clear H; intro bk wk H) | (refine ost_build1 H rfl rfl rfl evQ lsQ rfl ?_; clear H; intro bk wk H))) | refine Wc.seq ?_ | refine then_n ?_ | refine WL.nil ?_ | refine Wc.region ?_ | refine Wc.block ?_ | refine then_r ?_ | refine then_e ?_ | refine inb_e rfl ?_ | refine inb_o rfl ?_ | refine inb_n ?_ | refine inb_r ?_ | refine Wc.skip ?_ | refine Wc.exit ?_ | refine Wc.ret ?_ | refine Wc.cond_true rfl ?_ | refine Wc.cond_false rfl ?_ | (refine Wc.drawn (id := 12) 17 (by kernel_rfl) ?_) | refine WL.skp rfl rfl ?_ | refine WL.sku rfl ?_ | (refine rgs_nil ?_; intro vs wk hE; replace H := H.ext hE; clear hE) | refine RGs.skp (fun _ => rfl) rfl ?_ | (refine RGs.bq (fun _ => rfl) rfl (by intro vs w hE hP; have H := H.ext hE; first | exact dbQ | fail) (fun hc => ?_) (fun hc => ?_) <;> ((try simp only [cmpP, decide_eq_true_eq, decide_eq_false_iff_not, dcd_iff, dcd_no] at hc); try exact prDQ)) | refine RGs.pq (fun _ => rfl) rfl (by intro vs w hE hP; have H := H.ext hE; first | exact dvQ | fail) ?_ | (refine Wc.drawM (id := 13) 12 [(11, [.blk bs (.cells (cSlot zeroS).toArray 34 (0, 0))], fun v L' => L' = [.blk bs (.cells (cSlot (slotK f)).toArray 34 (0, 0))])] [.blk _ _, .blk _ _] [11] H (by kernel_rfl) rfl (by kernel_rfl) (by simp only [inpL, List.nil_append, List.cons_append, List.append_nil]; first | exact List.Perm.refl _ | exact List.Perm.swap _ _ _ | exact (List.Perm.swap _ _ _).trans ((List.Perm.swap _ _ _).cons _) | exact ((List.Perm.swap _ _ _).cons _) | exact ((List.Perm.swap _ _ _).cons _).trans (List.Perm.swap _ _ _)) ?_) | (refine rgm_nil ?_; intro vs wk outs HM hR; obtain ⟨v11, o11, h11⟩ := hR 11 _ rfl; (try dsimp only at o11); simp only [outsL, o11, List.cons_append, List.nil_append, List.append_nil] at HM; (try dsimp only); replace H := HM; clear HM hR) | refine RGm.skp (fun _ => rfl) rfl ?_ | (refine RGm.bq (fun _ => rfl) rfl (by intro vs w TT hP H; simp only [List.cons_append, List.nil_append] at H; first | exact dbQ | fail) (fun hc => ?_) (fun hc => ?_) <;> ((try simp only [cmpP, decide_eq_true_eq, decide_eq_false_iff_not, dcd_iff, dcd_no] at hc); try exact prDQ)) | refine RGm.pq (fun _ => rfl) rfl (by intro vs w TT hP H; simp only [List.cons_append, List.nil_append] at H; first | exact dvQ | fail) ?_ | refine RGm.mq (fun _ => rfl) rfl (by intro vs w TT hP H; simp only [List.cons_append, List.nil_append] at H; first | (refine ost_storeW (i := 0) (vs := cSlot (slotK f)) H rfl rfl rfl rfl lS rfl rfl (allOne_of rfl) ?_; intro wk H2; simp only [List.set_cons_zero, List.set_cons_succ] at H2; exact ⟨[_], rfl, H2⟩) | fail) ?_ | refine RGm.mu rfl (by intro vs w TT hP H; simp only [List.cons_append, List.nil_append] at H; first | (refine ost_storeW (i := 0) (vs := cSlot (slotK f)) H rfl rfl rfl rfl lS rfl rfl (allOne_of rfl) ?_; intro wk H2; simp only [List.set_cons_zero, List.set_cons_succ] at H2; exact ⟨[_], rfl, H2⟩) | fail) ?_)
      all_goals first | exact fn_ret2 (v2 := .bool _) rfl (rv_cellA rfl rfl H.bI lQ) rfl (hfin _ _ (.inr ⟨rfl, fun s hs => hce (hK s hs).1⟩) H) | (exfalso; omega)
end Go.Tg

set_option linter.unusedVariables false
set_option linter.unusedSimpArgs false
set_option maxRecDepth 100000
set_option maxHeartbeats 4000000
namespace Go.Tg
open Go Go.Proofs
def PickS (a b : List UInt8) (r : SlotT) (e : Int) : Prop :=
  (∃ x, encS x = a ∧ (∀ y, encS y = b → y.ver.toNat ≤ x.ver.toNat) ∧ r = x ∧ e = 0) ∨
  (∃ y, encS y = b ∧ (∀ x, encS x = a → x.ver.toNat < y.ver.toNat) ∧ r = y ∧ e = 0) ∨
  ((∀ s, encS s ≠ a) ∧ (∀ s, encS s ≠ b) ∧ r = zeroS ∧ e = 7)
theorem PickS.unique {a b : List UInt8} {r r' : SlotT} {e e' : Int} (h : PickS a b r e) (k : PickS a b r' e') : r = r' ∧ e = e' := by
  rcases h with ⟨x, h1, h2, rfl, rfl⟩ | ⟨y, h1, h2, rfl, rfl⟩ | ⟨h1, h2, rfl, rfl⟩ <;> rcases k with ⟨x', k1, k2, rfl, rfl⟩ | ⟨y', k1, k2, rfl, rfl⟩ | ⟨k1, k2, rfl, rfl⟩
  · exact ⟨encS_inj (h1.trans k1.symm), rfl⟩
  · exact absurd (k2 _ h1) (Nat.not_lt.2 (h2 _ k1))
  · exact absurd h1 (k1 _)
  · exact absurd (h2 _ k1) (Nat.not_lt.2 (k2 _ h1))
  · exact ⟨encS_inj (h1.trans k1.symm), rfl⟩
  · exact absurd h1 (k2 _)
  · exact absurd k1 (h1 _)
  · exact absurd k1 (h2 _)
  · exact ⟨rfl, rfl⟩
theorem pickS_1 {a b : List UInt8} {x y : SlotT} {q : Bool} (hx : DecS a x true) (hy : DecS b y q) (h : q = true → y.ver.toNat ≤ x.ver.toNat) : PickS a b x 0 := by
  rcases hx with ⟨-, hx⟩ | ⟨hx, -⟩
  · refine .inl ⟨x, hx, fun z hz => ?_, rfl, rfl⟩
    rcases hy with ⟨h1, h2⟩ | ⟨h1, h2⟩
    · rw [encS_inj (hz.trans h2.symm)]; exact h h1
    · exact absurd hz (h2 _)
  · cases hx
theorem pickS_2 {a b : List UInt8} {x y : SlotT} {p : Bool} (hx : DecS a x p) (hy : DecS b y true) (h : p = true → x.ver.toNat < y.ver.toNat) : PickS a b y 0 := by
  rcases hy with ⟨-, hy⟩ | ⟨hy, -⟩
  · refine .inr (.inl ⟨y, hy, fun z hz => ?_, rfl, rfl⟩)
    rcases hx with ⟨h1, h2⟩ | ⟨h1, h2⟩
    · rw [encS_inj (hz.trans h2.symm)]; exact h h1
    · exact absurd hz (h2 _)
  · cases hy
theorem pickS_3 {a b : List UInt8} {x y : SlotT} (hx : DecS a x false) (hy : DecS b y false) : PickS a b zeroS 7 := by
  rcases hx with ⟨hx, -⟩ | ⟨-, hx⟩
  · cases hx
  rcases hy with ⟨hy, -⟩ | ⟨-, hy⟩
  · cases hy
  exact .inr (.inr ⟨hx, hy, rfl, rfl⟩)
theorem ro_Pick (h0 : FH) (a1 a2 : Option Addr) (c1 c2 : Nat) (a b : List UInt8) (w : World) (hs : Sat h0 w) (hT : Half h0) (hr1 : BS h0 a1 c1 a) (hr2 : BS h0 a2 c2 b) (ha : a.length ≤ 1000000) (hb : b.length ≤ 1000000) :
    Spec Tryd.prog 16 #[.slice a1 a.length c1, .slice a2 b.length c2] w [] h0 (fun v h' L' => h' = h0 ∧ L' = [] ∧ ∃ r e, v = .tuple #[.agg (cSlot r).toArray, .int .i64 e] ∧ PickS a b r e) := by
  have H := St.start hs
  have lz : cSlot zeroS = [Value.int .u64 0, .int .u32 0, .int .u32 0, .int .u32 0] := rfl
  have hd1 := fun w hs => ro_decode h0 a1 c1 a w hs hT hr1 ha
  have hd2 := fun w hs => ro_decode h0 a2 c2 b w hs hT hr2 hb
  unfold Spec
  refine calls_of Tryd.func16 rfl Tryd.ntmps16 (by simp) ?_
  repeat' (first | ((first | refine WL.p rfl ?_ | refine WL.u ?_ | refine WL.g rfl rfl ?_ | refine WL.gu rfl ?_); first | (refine opk 1 rfl ?_; first | (refine ost_Sk H rfl (hd1 _ H.sat) rfl ?_; clear H; rintro vk wk hfk Lk ⟨rfl, rfl, x, p, rfl, hx⟩ hle H; simp only [List.cons_append, List.nil_append] at H) | (refine ost_Sk H rfl (hd2 _ H.sat) rfl ?_; clear H; rintro vk wk hfk Lk ⟨rfl, rfl, y, q, rfl, hy⟩ hle H; simp only [List.cons_append, List.nil_append] at H)) | refine pvQ ?_ | (refine opk 3 rfl ?_; (refine ost_cmp rfl rfl rfl rfl (fun hc => ?_) (fun hc => ?_) <;> (simp only [cmpP] at hc; try exact prIQ))) | (refine opk 4 rfl ?_; (refine ost_cmp rfl rfl rfl rfl (fun hc => ?_) (fun hc => ?_) <;> (simp only [cmpP] at hc; try exact prIQ))) | (refine opk 8 rfl ?_; (refine ost_storeW H rfl rfl rfl rfl lQ ixQ lQ okQ ?_; clear H; intro wk H; simp only [List.set_cons_zero, List.set_cons_succ, Nat.reduceAdd] at H)) | (refine opk 9 rfl ?_; (refine ost_allocA H rfl ?_; clear H; intro bk wk H))) | refine Wc.seq ?_ | refine then_n ?_ | refine WL.nil ?_ | refine Wc.region ?_ | refine Wc.block ?_ | refine then_r ?_ | refine then_e ?_ | refine inb_e rfl ?_ | refine inb_o rfl ?_ | refine inb_n ?_ | refine inb_r ?_ | refine Wc.skip ?_ | refine Wc.exit ?_ | refine Wc.ret ?_ | refine Wc.cond_true rfl ?_ | refine Wc.cond_false rfl ?_ | refine WL.skp rfl rfl ?_ | refine WL.sku rfl ?_)
  cases p <;> cases q
  · repeat' (first | ((first | refine WL.p rfl ?_ | refine WL.u ?_ | refine WL.g rfl rfl ?_ | refine WL.gu rfl ?_); first | (refine opk 9 rfl ?_; (refine ost_buildS rfl evP_nil rfl (rfl : _ = [_, _, _, _]) ?_)) | refine pvQ ?_ | (refine opk 3 rfl ?_; (refine ost_cmp rfl rfl rfl rfl (fun hc => ?_) (fun hc => ?_) <;> (simp only [cmpP] at hc; try exact prIQ))) | (refine opk 4 rfl ?_; (refine ost_cmp rfl rfl rfl rfl (fun hc => ?_) (fun hc => ?_) <;> (simp only [cmpP] at hc; try exact prIQ))) | (refine opk 8 rfl ?_; (refine ost_storeW H rfl rfl rfl rfl lQ ixQ lQ okQ ?_; clear H; intro wk H; simp only [List.set_cons_zero, List.set_cons_succ, Nat.reduceAdd] at H)) | (refine opk 9 rfl ?_; (refine ost_allocA H rfl ?_; clear H; intro bk wk H))) | refine Wc.seq ?_ | refine then_n ?_ | refine WL.nil ?_ | refine Wc.region ?_ | refine Wc.block ?_ | refine then_r ?_ | refine then_e ?_ | refine inb_e rfl ?_ | refine inb_o rfl ?_ | refine inb_n ?_ | refine inb_r ?_ | refine Wc.skip ?_ | refine Wc.exit ?_ | refine Wc.ret ?_ | refine Wc.cond_true rfl ?_ | refine Wc.cond_false rfl ?_ | refine WL.skp rfl rfl ?_ | refine WL.sku rfl ?_)
    exact fn_ret2 (v2 := .int _ _) rfl (rv_cellA rfl rfl H.bI lQ) rfl ⟨_, _, H.picks [] rfl (by decide), rfl, rfl, _, _, rfl, pickS_3 hx hy⟩
  · repeat' (first | ((first | refine WL.p rfl ?_ | refine WL.u ?_ | refine WL.g rfl rfl ?_ | refine WL.gu rfl ?_); first | (refine opk 8 rfl ?_; (refine ost_storeW (i := 2) (vs := cSlot y) H rfl rfl rfl rfl rfl rfl rfl (allOne_of rfl) ?_; clear H; intro wk H; simp only [List.set_cons_zero, List.set_cons_succ] at H)) | refine pvQ ?_ | (refine opk 3 rfl ?_; (refine ost_cmp rfl rfl rfl rfl (fun hc => ?_) (fun hc => ?_) <;> (simp only [cmpP] at hc; try exact prIQ))) | (refine opk 4 rfl ?_; (refine ost_cmp rfl rfl rfl rfl (fun hc => ?_) (fun hc => ?_) <;> (simp only [cmpP] at hc; try exact prIQ))) | (refine opk 8 rfl ?_; (refine ost_storeW H rfl rfl rfl rfl lQ ixQ lQ okQ ?_; clear H; intro wk H; simp only [List.set_cons_zero, List.set_cons_succ, Nat.reduceAdd] at H)) | (refine opk 9 rfl ?_; (refine ost_allocA H rfl ?_; clear H; intro bk wk H))) | refine Wc.seq ?_ | refine then_n ?_ | refine WL.nil ?_ | refine Wc.region ?_ | refine Wc.block ?_ | refine then_r ?_ | refine then_e ?_ | refine inb_e rfl ?_ | refine inb_o rfl ?_ | refine inb_n ?_ | refine inb_r ?_ | refine Wc.skip ?_ | refine Wc.exit ?_ | refine Wc.ret ?_ | refine Wc.cond_true rfl ?_ | refine Wc.cond_false rfl ?_ | refine WL.skp rfl rfl ?_ | refine WL.sku rfl ?_)
    exact fn_ret2 (v2 := .int _ _) rfl (rv_cellA rfl rfl H.bI lQ) rfl ⟨_, _, H.picks [] rfl (by decide), rfl, rfl, _, _, rfl, pickS_2 hx hy (fun h => by cases h)⟩
  · repeat' (first | ((first | refine WL.p rfl ?_ | refine WL.u ?_ | refine WL.g rfl rfl ?_ | refine WL.gu rfl ?_); first | (refine opk 8 rfl ?_; (refine ost_storeW (i := 2) (vs := cSlot x) H rfl rfl rfl rfl rfl rfl rfl (allOne_of rfl) ?_; clear H; intro wk H; simp only [List.set_cons_zero, List.set_cons_succ] at H)) | refine pvQ ?_ | (refine opk 3 rfl ?_; (refine ost_cmp rfl rfl rfl rfl (fun hc => ?_) (fun hc => ?_) <;> (simp only [cmpP] at hc; try exact prIQ))) | (refine opk 4 rfl ?_; (refine ost_cmp rfl rfl rfl rfl (fun hc => ?_) (fun hc => ?_) <;> (simp only [cmpP] at hc; try exact prIQ))) | (refine opk 8 rfl ?_; (refine ost_storeW H rfl rfl rfl rfl lQ ixQ lQ okQ ?_; clear H; intro wk H; simp only [List.set_cons_zero, List.set_cons_succ, Nat.reduceAdd] at H)) | (refine opk 9 rfl ?_; (refine ost_allocA H rfl ?_; clear H; intro bk wk H))) | refine Wc.seq ?_ | refine then_n ?_ | refine WL.nil ?_ | refine Wc.region ?_ | refine Wc.block ?_ | refine then_r ?_ | refine then_e ?_ | refine inb_e rfl ?_ | refine inb_o rfl ?_ | refine inb_n ?_ | refine inb_r ?_ | refine Wc.skip ?_ | refine Wc.exit ?_ | refine Wc.ret ?_ | refine Wc.cond_true rfl ?_ | refine Wc.cond_false rfl ?_ | refine WL.skp rfl rfl ?_ | refine WL.sku rfl ?_)
    exact fn_ret2 (v2 := .int _ _) rfl (rv_cellA rfl rfl H.bI lQ) rfl ⟨_, _, H.picks [] rfl (by decide), rfl, rfl, _, _, rfl, pickS_1 hx hy (fun h => by cases h)⟩
  · by_cases hv : y.ver.toNat ≤ x.ver.toNat
    · repeat' (first | ((first | refine WL.p rfl ?_ | refine WL.u ?_ | refine WL.g rfl rfl ?_ | refine WL.gu rfl ?_); first | (refine opk 8 rfl ?_; (refine ost_storeW (i := 2) (vs := cSlot x) H rfl rfl rfl rfl rfl rfl rfl (allOne_of rfl) ?_; clear H; intro wk H; simp only [List.set_cons_zero, List.set_cons_succ] at H)) | refine pvQ ?_ | (refine opk 3 rfl ?_; (refine ost_cmp rfl rfl rfl rfl (fun hc => ?_) (fun hc => ?_) <;> (simp only [cmpP] at hc; try exact prIQ))) | (refine opk 4 rfl ?_; (refine ost_cmp rfl rfl rfl rfl (fun hc => ?_) (fun hc => ?_) <;> (simp only [cmpP] at hc; try exact prIQ))) | (refine opk 8 rfl ?_; (refine ost_storeW H rfl rfl rfl rfl lQ ixQ lQ okQ ?_; clear H; intro wk H; simp only [List.set_cons_zero, List.set_cons_succ, Nat.reduceAdd] at H)) | (refine opk 9 rfl ?_; (refine ost_allocA H rfl ?_; clear H; intro bk wk H))) | refine Wc.seq ?_ | refine then_n ?_ | refine WL.nil ?_ | refine Wc.region ?_ | refine Wc.block ?_ | refine then_r ?_ | refine then_e ?_ | refine inb_e rfl ?_ | refine inb_o rfl ?_ | refine inb_n ?_ | refine inb_r ?_ | refine Wc.skip ?_ | refine Wc.exit ?_ | refine Wc.ret ?_ | refine Wc.cond_true rfl ?_ | refine Wc.cond_false rfl ?_ | refine WL.skp rfl rfl ?_ | refine WL.sku rfl ?_)
      all_goals first | (exfalso; omega) | exact fn_ret2 (v2 := .int _ _) rfl (rv_cellA rfl rfl H.bI lQ) rfl ⟨_, _, H.picks [] rfl (by decide), rfl, rfl, _, _, rfl, pickS_1 hx hy (fun _ => hv)⟩
    · repeat' (first | ((first | refine WL.p rfl ?_ | refine WL.u ?_ | refine WL.g rfl rfl ?_ | refine WL.gu rfl ?_); first | (refine opk 8 rfl ?_; (refine ost_storeW (i := 2) (vs := cSlot y) H rfl rfl rfl rfl rfl rfl rfl (allOne_of rfl) ?_; clear H; intro wk H; simp only [List.set_cons_zero, List.set_cons_succ] at H)) | refine pvQ ?_ | (refine opk 3 rfl ?_; (refine ost_cmp rfl rfl rfl rfl (fun hc => ?_) (fun hc => ?_) <;> (simp only [cmpP] at hc; try exact prIQ))) | (refine opk 4 rfl ?_; (refine ost_cmp rfl rfl rfl rfl (fun hc => ?_) (fun hc => ?_) <;> (simp only [cmpP] at hc; try exact prIQ))) | (refine opk 8 rfl ?_; (refine ost_storeW H rfl rfl rfl rfl lQ ixQ lQ okQ ?_; clear H; intro wk H; simp only [List.set_cons_zero, List.set_cons_succ, Nat.reduceAdd] at H)) | (refine opk 9 rfl ?_; (refine ost_allocA H rfl ?_; clear H; intro bk wk H))) | refine Wc.seq ?_ | refine then_n ?_ | refine WL.nil ?_ | refine Wc.region ?_ | refine Wc.block ?_ | refine then_r ?_ | refine then_e ?_ | refine inb_e rfl ?_ | refine inb_o rfl ?_ | refine inb_n ?_ | refine inb_r ?_ | refine Wc.skip ?_ | refine Wc.exit ?_ | refine Wc.ret ?_ | refine Wc.cond_true rfl ?_ | refine Wc.cond_false rfl ?_ | refine WL.skp rfl rfl ?_ | refine WL.sku rfl ?_)
      all_goals first | (exfalso; omega) | exact fn_ret2 (v2 := .int _ _) rfl (rv_cellA rfl rfl H.bI lQ) rfl ⟨_, _, H.picks [] rfl (by decide), rfl, rfl, _, _, rfl, pickS_2 hx hy (fun _ => by omega)⟩
theorem r15_Pick (h0 : FH) (a1 a2 : Option Addr) (c1 c2 : Nat) (a b : List UInt8) (w : World) (hs : Sat h0 w) (hr1 : BS h0 a1 c1 a) (hr2 : BS h0 a2 c2 b) (ha : a.length ≤ 1000000) (hb : b.length ≤ 1000000) :
    Spec Tryd.prog 17 #[.slice a1 a.length c1, .slice a2 b.length c2] w [] h0 (fun v h' L' => h' = h0 ∧ L' = [] ∧ ∃ r e, v = .tuple #[.agg (cSlot r).toArray, .int .i64 e] ∧ PickS a b r e) := by
  have H := St.start hs
  have lz : cSlot zeroS = [Value.int .u64 0, .int .u32 0, .int .u32 0, .int .u32 0] := rfl
  have hd1 := fun w hs => r15_decode h0 a1 c1 a w hs hr1 ha
  have hd2 := fun w hs => r15_decode h0 a2 c2 b w hs hr2 hb
  unfold Spec
  refine calls_of Tryd.func17 rfl Tryd.ntmps17 (by simp) ?_
  repeat' (first | ((first | refine WL.p rfl ?_ | refine WL.u ?_ | refine WL.g rfl rfl ?_ | refine WL.gu rfl ?_); first | (refine opk 1 rfl ?_; first | (refine ost_Sk H rfl (hd1 _ H.sat) rfl ?_; clear H; rintro vk wk hfk Lk ⟨rfl, rfl, x, p, rfl, hx⟩ hle H; simp only [List.cons_append, List.nil_append] at H) | (refine ost_Sk H rfl (hd2 _ H.sat) rfl ?_; clear H; rintro vk wk hfk Lk ⟨rfl, rfl, y, q, rfl, hy⟩ hle H; simp only [List.cons_append, List.nil_append] at H)) | refine pvQ ?_ | (refine opk 3 rfl ?_; (refine ost_cmp rfl rfl rfl rfl (fun hc => ?_) (fun hc => ?_) <;> (simp only [cmpP] at hc; try exact prIQ))) | (refine opk 4 rfl ?_; (refine ost_cmp rfl rfl rfl rfl (fun hc => ?_) (fun hc => ?_) <;> (simp only [cmpP] at hc; try exact prIQ))) | (refine opk 8 rfl ?_; (refine ost_storeW H rfl rfl rfl rfl lQ ixQ lQ okQ ?_; clear H; intro wk H; simp only [List.set_cons_zero, List.set_cons_succ, Nat.reduceAdd] at H)) | (refine opk 9 rfl ?_; (refine ost_allocA H rfl ?_; clear H; intro bk wk H))) | refine Wc.seq ?_ | refine then_n ?_ | refine WL.nil ?_ | refine Wc.region ?_ | refine Wc.block ?_ | refine then_r ?_ | refine then_e ?_ | refine inb_e rfl ?_ | refine inb_o rfl ?_ | refine inb_n ?_ | refine inb_r ?_ | refine Wc.skip ?_ | refine Wc.exit ?_ | refine Wc.ret ?_ | refine Wc.cond_true rfl ?_ | refine Wc.cond_false rfl ?_ | refine WL.skp rfl rfl ?_ | refine WL.sku rfl ?_)
  cases p <;> cases q
  · repeat' (first | ((first | refine WL.p rfl ?_ | refine WL.u ?_ | refine WL.g rfl rfl ?_ | refine WL.gu rfl ?_); first | (refine opk 9 rfl ?_; (refine ost_buildS rfl evP_nil rfl (rfl : _ = [_, _, _, _]) ?_)) | refine pvQ ?_ | (refine opk 3 rfl ?_; (refine ost_cmp rfl rfl rfl rfl (fun hc => ?_) (fun hc => ?_) <;> (simp only [cmpP] at hc; try exact prIQ))) | (refine opk 4 rfl ?_; (refine ost_cmp rfl rfl rfl rfl (fun hc => ?_) (fun hc => ?_) <;> (simp only [cmpP] at hc; try exact prIQ))) | (refine opk 8 rfl ?_; (refine ost_storeW H rfl rfl rfl rfl lQ ixQ lQ okQ ?_; clear H; intro wk H; simp only [List.set_cons_zero, List.set_cons_succ, Nat.reduceAdd] at H)) | (refine opk 9 rfl ?_; (refine ost_allocA H rfl ?_; clear H; intro bk wk H))) | refine Wc.seq ?_ | refine then_n ?_ | refine WL.nil ?_ | refine Wc.region ?_ | refine Wc.block ?_ | refine then_r ?_ | refine then_e ?_ | refine inb_e rfl ?_ | refine inb_o rfl ?_ | refine inb_n ?_ | refine inb_r ?_ | refine Wc.skip ?_ | refine Wc.exit ?_ | refine Wc.ret ?_ | refine Wc.cond_true rfl ?_ | refine Wc.cond_false rfl ?_ | refine WL.skp rfl rfl ?_ | refine WL.sku rfl ?_)
    exact fn_ret2 (v2 := .int _ _) rfl (rv_cellA rfl rfl H.bI lQ) rfl ⟨_, _, H.picks [] rfl (by decide), rfl, rfl, _, _, rfl, pickS_3 hx hy⟩
  · repeat' (first | ((first | refine WL.p rfl ?_ | refine WL.u ?_ | refine WL.g rfl rfl ?_ | refine WL.gu rfl ?_); first | (refine opk 8 rfl ?_; (refine ost_storeW (i := 2) (vs := cSlot y) H rfl rfl rfl rfl rfl rfl rfl (allOne_of rfl) ?_; clear H; intro wk H; simp only [List.set_cons_zero, List.set_cons_succ] at H)) | refine pvQ ?_ | (refine opk 3 rfl ?_; (refine ost_cmp rfl rfl rfl rfl (fun hc => ?_) (fun hc => ?_) <;> (simp only [cmpP] at hc; try exact prIQ))) | (refine opk 4 rfl ?_; (refine ost_cmp rfl rfl rfl rfl (fun hc => ?_) (fun hc => ?_) <;> (simp only [cmpP] at hc; try exact prIQ))) | (refine opk 8 rfl ?_; (refine ost_storeW H rfl rfl rfl rfl lQ ixQ lQ okQ ?_; clear H; intro wk H; simp only [List.set_cons_zero, List.set_cons_succ, Nat.reduceAdd] at H)) | (refine opk 9 rfl ?_; (refine ost_allocA H rfl ?_; clear H; intro bk wk H))) | refine Wc.seq ?_ | refine then_n ?_ | refine WL.nil ?_ | refine Wc.region ?_ | refine Wc.block ?_ | refine then_r ?_ | refine then_e ?_ | refine inb_e rfl ?_ | refine inb_o rfl ?_ | refine inb_n ?_ | refine inb_r ?_ | refine Wc.skip ?_ | refine Wc.exit ?_ | refine Wc.ret ?_ | refine Wc.cond_true rfl ?_ | refine Wc.cond_false rfl ?_ | refine WL.skp rfl rfl ?_ | refine WL.sku rfl ?_)
    exact fn_ret2 (v2 := .int _ _) rfl (rv_cellA rfl rfl H.bI lQ) rfl ⟨_, _, H.picks [] rfl (by decide), rfl, rfl, _, _, rfl, pickS_2 hx hy (fun h => by cases h)⟩
  · repeat' (first | ((first | refine WL.p rfl ?_ | refine WL.u ?_ | refine WL.g rfl rfl ?_ | refine WL.gu rfl ?_); first | (refine opk 8 rfl ?_; (refine ost_storeW (i := 2) (vs := cSlot x) H rfl rfl rfl rfl rfl rfl rfl (allOne_of rfl) ?_; clear H; intro wk H; simp only [List.set_cons_zero, List.set_cons_succ] at H)) | refine pvQ ?_ | (refine opk 3 rfl ?_; (refine ost_cmp rfl rfl rfl rfl (fun hc => ?_) (fun hc => ?_) <;> (simp only [cmpP] at hc; try exact prIQ))) | (refine opk 4 rfl ?_; (refine ost_cmp rfl rfl rfl rfl (fun hc => ?_) (fun hc => ?_) <;> (simp only [cmpP] at hc; try exact prIQ))) | (refine opk 8 rfl ?_; (refine ost_storeW H rfl rfl rfl rfl lQ ixQ lQ okQ ?_; clear H; intro wk H; simp only [List.set_cons_zero, List.set_cons_succ, Nat.reduceAdd] at H)) | (refine opk 9 rfl ?_; (refine ost_allocA H rfl ?_; clear H; intro bk wk H))) | refine Wc.seq ?_ | refine then_n ?_ | refine WL.nil ?_ | refine Wc.region ?_ | refine Wc.block ?_ | refine then_r ?_ | refine then_e ?_ | refine inb_e rfl ?_ | refine inb_o rfl ?_ | refine inb_n ?_ | refine inb_r ?_ | refine Wc.skip ?_ | refine Wc.exit ?_ | refine Wc.ret ?_ | refine Wc.cond_true rfl ?_ | refine Wc.cond_false rfl ?_ | refine WL.skp rfl rfl ?_ | refine WL.sku rfl ?_)
    exact fn_ret2 (v2 := .int _ _) rfl (rv_cellA rfl rfl H.bI lQ) rfl ⟨_, _, H.picks [] rfl (by decide), rfl, rfl, _, _, rfl, pickS_1 hx hy (fun h => by cases h)⟩
  · by_cases hv : y.ver.toNat ≤ x.ver.toNat
    · repeat' (first | ((first | refine WL.p rfl ?_ | refine WL.u ?_ | refine WL.g rfl rfl ?_ | refine WL.gu rfl ?_); first | (refine opk 8 rfl ?_; (refine ost_storeW (i := 2) (vs := cSlot x) H rfl rfl rfl rfl rfl rfl rfl (allOne_of rfl) ?_; clear H; intro wk H; simp only [List.set_cons_zero, List.set_cons_succ] at H)) | refine pvQ ?_ | (refine opk 3 rfl ?_; (refine ost_cmp rfl rfl rfl rfl (fun hc => ?_) (fun hc => ?_) <;> (simp only [cmpP] at hc; try exact prIQ))) | (refine opk 4 rfl ?_; (refine ost_cmp rfl rfl rfl rfl (fun hc => ?_) (fun hc => ?_) <;> (simp only [cmpP] at hc; try exact prIQ))) | (refine opk 8 rfl ?_; (refine ost_storeW H rfl rfl rfl rfl lQ ixQ lQ okQ ?_; clear H; intro wk H; simp only [List.set_cons_zero, List.set_cons_succ, Nat.reduceAdd] at H)) | (refine opk 9 rfl ?_; (refine ost_allocA H rfl ?_; clear H; intro bk wk H))) | refine Wc.seq ?_ | refine then_n ?_ | refine WL.nil ?_ | refine Wc.region ?_ | refine Wc.block ?_ | refine then_r ?_ | refine then_e ?_ | refine inb_e rfl ?_ | refine inb_o rfl ?_ | refine inb_n ?_ | refine inb_r ?_ | refine Wc.skip ?_ | refine Wc.exit ?_ | refine Wc.ret ?_ | refine Wc.cond_true rfl ?_ | refine Wc.cond_false rfl ?_ | refine WL.skp rfl rfl ?_ | refine WL.sku rfl ?_)
      all_goals first | (exfalso; omega) | exact fn_ret2 (v2 := .int _ _) rfl (rv_cellA rfl rfl H.bI lQ) rfl ⟨_, _, H.picks [] rfl (by decide), rfl, rfl, _, _, rfl, pickS_1 hx hy (fun _ => hv)⟩
    · repeat' (first | ((first | refine WL.p rfl ?_ | refine WL.u ?_ | refine WL.g rfl rfl ?_ | refine WL.gu rfl ?_); first | (refine opk 8 rfl ?_; (refine ost_storeW (i := 2) (vs := cSlot y) H rfl rfl rfl rfl rfl rfl rfl (allOne_of rfl) ?_; clear H; intro wk H; simp only [List.set_cons_zero, List.set_cons_succ] at H)) | refine pvQ ?_ | (refine opk 3 rfl ?_; (refine ost_cmp rfl rfl rfl rfl (fun hc => ?_) (fun hc => ?_) <;> (simp only [cmpP] at hc; try exact prIQ))) | (refine opk 4 rfl ?_; (refine ost_cmp rfl rfl rfl rfl (fun hc => ?_) (fun hc => ?_) <;> (simp only [cmpP] at hc; try exact prIQ))) | (refine opk 8 rfl ?_; (refine ost_storeW H rfl rfl rfl rfl lQ ixQ lQ okQ ?_; clear H; intro wk H; simp only [List.set_cons_zero, List.set_cons_succ, Nat.reduceAdd] at H)) | (refine opk 9 rfl ?_; (refine ost_allocA H rfl ?_; clear H; intro bk wk H))) | refine Wc.seq ?_ | refine then_n ?_ | refine WL.nil ?_ | refine Wc.region ?_ | refine Wc.block ?_ | refine then_r ?_ | refine then_e ?_ | refine inb_e rfl ?_ | refine inb_o rfl ?_ | refine inb_n ?_ | refine inb_r ?_ | refine Wc.skip ?_ | refine Wc.exit ?_ | refine Wc.ret ?_ | refine Wc.cond_true rfl ?_ | refine Wc.cond_false rfl ?_ | refine WL.skp rfl rfl ?_ | refine WL.sku rfl ?_)
      all_goals first | (exfalso; omega) | exact fn_ret2 (v2 := .int _ _) rfl (rv_cellA rfl rfl H.bI lQ) rfl ⟨_, _, H.picks [] rfl (by decide), rfl, rfl, _, _, rfl, pickS_2 hx hy (fun _ => by omega)⟩
end Go.Tg

set_option linter.unusedVariables false
set_option linter.unusedSimpArgs false
set_option maxRecDepth 100000
set_option maxHeartbeats 4000000
namespace Go.Tg
open Go Go.Proofs
noncomputable def pageAt (b : List UInt8) (i : Nat) : Option PageT :=
  if i < b.length ∧ (firstF (b.drop i)).2.2 = 0 ∧ (decP ((b.drop i).take (firstF (b.drop i)).2.1)).2 = 0 then some (decP ((b.drop i).take (firstF (b.drop i)).2.1)).1 else none
def itemsP (p : PageT) : List ItemT := (p.keys.zip p.locs).map fun x => ⟨x.1, x.2⟩
theorem decP_shape {b : List UInt8} (h : (decP b).2 = 0) : (decP b).1.locs.length ≤ (decP b).1.keys.length ∧ (decP b).1.keys.length ≤ 8 ∧ (decP b).1.kids.length ≤ 8 := by
  rcases decP_spec b with ⟨h1, h2, h3⟩ | ⟨h1, h2, h3⟩
  · have hs := (rightP_iff.1 h2).2
    unfold shapeP at hs
    split at hs <;> omega
  · rw [h] at h1; cases h1
theorem itemsP_len {p : PageT} (h : p.locs.length ≤ p.keys.length) : (itemsP p).length = p.locs.length := by
  unfold itemsP; rw [List.length_map, List.length_zip]; omega
theorem itemsP_get {p : PageT} {i : Nat} (h1 : i < p.keys.length) (h2 : i < p.locs.length) : (itemsP p)[i]? = some ⟨p.keys[i], p.locs[i]⟩ := by
  unfold itemsP
  rw [List.getElem?_map, List.getElem?_eq_getElem (by rw [List.length_zip]; omega), List.getElem_zip]; rfl
theorem itemsP_take {p : PageT} {i : Nat} (h1 : i < p.keys.length) (h2 : i < p.locs.length) : (itemsP p).take (i + 1) = (itemsP p).take i ++ [⟨p.keys[i], p.locs[i]⟩] := by
  rw [List.take_add_one, itemsP_get h1 h2]; rfl
noncomputable def rdF (b : List UInt8) : Nat → List Nat → Option (List ItemT × Nat)
  | left, [] => some ([], left)
  | 0, _ :: _ => none
  | left + 1, i :: l => match pageAt b i with
    | none => none
    | some p => match rdF b left (p.kids.map (·.toNat) ++ l) with
      | none => none
      | some r => some (itemsP p ++ r.1, r.2)
theorem rdF_nil (b : List UInt8) (left : Nat) : rdF b left [] = some ([], left) := by cases left <;> simp [rdF]
theorem rdF_zero (b : List UInt8) (i : Nat) (l : List Nat) : rdF b 0 (i :: l) = none := by simp [rdF]
theorem rdF_no {b : List UInt8} {i : Nat} (h : pageAt b i = none) (left : Nat) (l : List Nat) : rdF b left (i :: l) = none := by
  cases left with
  | zero => exact rdF_zero b i l
  | succ n => simp [rdF, h]
theorem rdF_page {b : List UInt8} {i : Nat} {p : PageT} (h : pageAt b i = some p) (left : Nat) (l : List Nat) : rdF b (left + 1) (i :: l) = (rdF b left (p.kids.map (·.toNat) ++ l)).map fun r => (itemsP p ++ r.1, r.2) := by
  simp only [rdF, h]
  cases rdF b left (p.kids.map (·.toNat) ++ l) <;> rfl
theorem rdF_app (b : List UInt8) : ∀ (left : Nat) (xs ys : List Nat), rdF b left (xs ++ ys) = (rdF b left xs).bind fun r => (rdF b r.2 ys).map fun s => (r.1 ++ s.1, s.2)
  | left, [], ys => by
    rw [rdF_nil]
    cases h : rdF b left ys <;> simp [h]
  | 0, x :: xs, ys => by rw [List.cons_append, rdF_zero, rdF_zero]; rfl
  | left + 1, x :: xs, ys => by
    rw [List.cons_append]
    cases h : pageAt b x with
    | none => rw [rdF_no h, rdF_no h]; rfl
    | some p =>
      rw [rdF_page h, rdF_page h, ← List.append_assoc, rdF_app b left _ ys]
      cases rdF b left (p.kids.map (·.toNat) ++ xs) with
      | none => rfl
      | some r =>
        simp only [Option.bind_some, Option.map_some]
        cases rdF b r.2 ys with
        | none => rfl
        | some s => simp
theorem pageAt_shape {b : List UInt8} {i : Nat} {p : PageT} (h : pageAt b i = some p) : p.locs.length ≤ p.keys.length ∧ p.keys.length ≤ 8 ∧ p.kids.length ≤ 8 := by
  unfold pageAt at h
  split at h
  · rename_i h9
    cases h
    exact decP_shape h9.2.2
  · cases h
theorem rdF_len (b : List UInt8) : ∀ (left : Nat) (l : List Nat) (r : List ItemT × Nat), rdF b left l = some r → r.2 ≤ left ∧ r.1.length + 8 * r.2 ≤ 8 * left
  | left, [], r, h => by rw [rdF_nil] at h; cases h; simp
  | 0, x :: xs, r, h => by rw [rdF_zero] at h; cases h
  | left + 1, x :: xs, r, h => by
    cases hp : pageAt b x with
    | none => rw [rdF_no hp] at h; cases h
    | some p =>
      rw [rdF_page hp] at h
      cases hq : rdF b left (p.kids.map (·.toNat) ++ xs) with
      | none => rw [hq] at h; cases h
      | some s =>
        rw [hq] at h; cases h
        obtain ⟨h1, h2⟩ := rdF_len b left _ s hq
        obtain ⟨h3, h4, _⟩ := pageAt_shape hp
        have := itemsP_len h3
        simp only [List.length_append]
        omega
theorem pageAt_no1 {b : List UInt8} {i : Nat} (h : ¬ i < b.length) : pageAt b i = none := by unfold pageAt; rw [if_neg fun h9 => h h9.1]
theorem pageAt_no2 {b : List UInt8} {i : Nat} (h : (firstF (b.drop i)).2.2 ≠ 0) : pageAt b i = none := by unfold pageAt; rw [if_neg fun h9 => h h9.2.1]
theorem pageAt_no3 {b : List UInt8} {i : Nat} (h : (decP ((b.drop i).take (firstF (b.drop i)).2.1)).2 ≠ 0) : pageAt b i = none := by unfold pageAt; rw [if_neg fun h9 => h h9.2.2]
theorem pageAt_yes {b : List UInt8} {i : Nat} (h1 : i < b.length) (h2 : (firstF (b.drop i)).2.2 = 0) (h3 : (decP ((b.drop i).take (firstF (b.drop i)).2.1)).2 = 0) : pageAt b i = some (decP ((b.drop i).take (firstF (b.drop i)).2.1)).1 := by
  unfold pageAt; rw [if_pos ⟨h1, h2, h3⟩]
noncomputable def loadL (b : List UInt8) (s : SlotT) : List ItemT × Int :=
  if b.length < s.end_.toNat then ([], 4) else
  match rdF (b.take s.end_.toNat) 8192 [s.at_.toNat] with
  | none => ([], 15)
  | some r => if dcd (r.1.length ≤ 4096 ∧ ∃ base : Nat, base ≤ s.end_.toNat ∧ dumpM r.1 s.ver base = ((b.take s.end_.toNat).drop base, s, 0)) = true then (r.1, 0) else ([], 15)
theorem dumpM_err (l : List ItemT) (v v' : UInt64) {x y : Nat} (hx : x ≤ 1073741824) (hy : y ≤ 1073741824) : (dumpM l v x).2.2 = (dumpM l v' y).2.2 := by
  cases hr : riseL l with
  | false =>
    unfold dumpM
    rw [if_pos (.inr (.inr hr)), if_pos (.inr (.inr hr))]
  | true =>
    unfold dumpM
    have h1 : ¬ ((x : Int) < 0 ∨ 1073741824 < (x : Int) ∨ riseL l = false) := by rw [hr]; simp; omega
    have h2 : ¬ ((y : Int) < 0 ∨ 1073741824 < (y : Int) ∨ riseL l = false) := by rw [hr]; simp; omega
    simp only [if_neg h1, if_neg h2]
    split <;> rfl
theorem dumpM_ok {l : List ItemT} {v : UInt64} {x : Nat} (h : (dumpM l v x).2.2 = 0) : riseL l = true ∧ l.length ≤ 4096 := by
  unfold dumpM at h
  split at h
  · cases h
  · rename_i h9
    split at h
    · cases h
    · refine ⟨?_, by omega⟩
      cases hr : riseL l with
      | true => rfl
      | false => exact absurd (.inr (.inr hr)) h9
end Go.Tg

