/- Contracts of Go functions that the laws reach: what each call answers and leaves in memory, for all arguments within the bounds that each theorem names. -/
import Derived.Test.YtbfilhaigbebpaaDoorInst
import Derived.Test.YtbfilhaigbebpaaDoorAuto
import Derived.Test.YtbfilhaigbebpaaDoorRH
set_option linter.unusedVariables false
set_option linter.unusedSimpArgs false
set_option maxRecDepth 100000
set_option maxHeartbeats 4000000
namespace Go.Tg
open Go Go.Proofs
theorem loadL_4 {b : List UInt8} {s : SlotT} (h : b.length < s.end_.toNat) : loadL b s = ([], 4) := by unfold loadL; rw [if_pos h]
theorem loadL_none {b : List UInt8} {s : SlotT} (h : ¬ b.length < s.end_.toNat) (h2 : rdF (b.take s.end_.toNat) 8192 [s.at_.toNat] = none) : loadL b s = ([], 15) := by unfold loadL; rw [if_neg h, h2]
theorem loadL_no {b : List UInt8} {s : SlotT} {r : List ItemT × Nat} (h : ¬ b.length < s.end_.toNat) (h2 : rdF (b.take s.end_.toNat) 8192 [s.at_.toNat] = some r)
    (h3 : ¬ (r.1.length ≤ 4096 ∧ ∃ base : Nat, base ≤ s.end_.toNat ∧ dumpM r.1 s.ver base = ((b.take s.end_.toNat).drop base, s, 0))) : loadL b s = ([], 15) := by
  unfold loadL; rw [if_neg h, h2]; dsimp only; rw [dcd_no.2 h3]; rfl
theorem loadL_yes {b : List UInt8} {s : SlotT} {r : List ItemT × Nat} (h : ¬ b.length < s.end_.toNat) (h2 : rdF (b.take s.end_.toNat) 8192 [s.at_.toNat] = some r)
    (h3 : r.1.length ≤ 4096 ∧ ∃ base : Nat, base ≤ s.end_.toNat ∧ dumpM r.1 s.ver base = ((b.take s.end_.toNat).drop base, s, 0)) : loadL b s = (r.1, 0) := by
  unfold loadL; rw [if_neg h, h2]; dsimp only; rw [dcd_iff.2 h3]; rfl
theorem upG_len (base : Nat) (xs : List UInt8) (pls : List PlT) : (upG base xs pls).1.length ≤ xs.length + 500 * pls.length := by
  by_cases h : 1 < pls.length
  · rw [upG_step h]
    have h1 := upG_len base (xs ++ bytesP (nodePs pls)) (placesP (base + xs.length) (nodePs pls))
    have h2 := bytesP_len (nodePs pls)
    rw [placesP_len, List.length_append] at h1
    rw [nodePs_len] at h1 h2
    unfold chN at h1 h2
    omega
  · rw [upG_end h]; simp
termination_by pls.length
decreasing_by rw [placesP_len, nodePs_len]; unfold chN; omega
theorem dumpM_len (l : List ItemT) (v : UInt64) (x : Int) : (dumpM l v x).1.length ≤ 5000000 := by
  unfold dumpM
  split
  · simp
  · split
    · simp
    · rename_i h
      dsimp only
      unfold upL
      have h1 := upG_len x.toNat (bytesP (leafPs l)) (placesP x.toNat (leafPs l))
      have h2 := bytesP_len (leafPs l)
      have h3 := leafPs_len l
      rw [placesP_len] at h1
      omega
def tupG (i : Nat) (v : Value) : Value := match v with | .tuple a => a.getD i undef | _ => undef
theorem tupG0 (x y z : Value) : tupG 0 (.tuple #[x, y, z]) = x := rfl
theorem tupG1 (x y z : Value) : tupG 1 (.tuple #[x, y, z]) = y := rfl
theorem tupG2 (x y z : Value) : tupG 2 (.tuple #[x, y, z]) = z := rfl
def cmD (i : Nat) (D : List UInt8 × SlotT × Int) : Cm := ⟨i, 999, [], fun v L' => ∃ a c, v = .tuple #[.slice a D.1.length c, .agg (cSlot D.2.1).toArray, .int .i64 D.2.2] ∧ L' = [own8 (.slice a D.1.length c) 5 D.1], fun _ _ => True⟩
def cmS (i j : Nat) (s : SlotT) : Cm := ⟨i, j, [], fun v L' => ∃ b, v = pt b ∧ L' = [.blk b (.cells (cSlot zeroS).toArray 28 (0, 0))], fun v L' => ∃ b, v = pt b ∧ L' = [.blk b (.cells (cSlot s).toArray 28 (0, 0))]⟩
theorem ro_Load (h0 : FH) (a : Option Addr) (c : Nat) (b : List UInt8) (s : SlotT) (w : World) (hs : Sat h0 w) (hT : Half h0) (hr : BS h0 a c b) (hb : b.length ≤ 40960) :
    Spec Tryd.prog 13 #[.slice a b.length c, .agg (cSlot s).toArray] w [] h0 (fun v h' L' => ∃ a' c', v = .tuple #[.slice a' (loadL b s).1.length c', .int .i64 (loadL b s).2] ∧ L' = [] ∧ Sl h' 5 a' c' ((loadL b s).1.map cItem)) := by
  have H := St.start hs
  have lS := cSlot_len s
  have hcap := hr.le
  have hE4 := s.end_.toNat_lt
  have hA4 := s.at_.toNat_lt
  unfold Spec
  refine calls_of Tryd.func13 rfl Tryd.ntmps13 (by simp) ?_
  have g2 : (cSlot s)[0 + 2]? = some (.int .u32 (s.end_.toNat : Nat)) := rfl
  have g1 : (cSlot s)[0 + 1]? = some (.int .u32 (s.at_.toNat : Nat)) := rfl
  have g0 : (cSlot s)[0 + 0]? = some (.int .u64 (s.ver.toNat : Nat)) := rfl
  by_cases hlt : b.length < s.end_.toNat
  · rw [loadL_4 hlt]
    repeat' (first | ((first | refine WL.p rfl ?_ | refine WL.u ?_ | refine WL.g rfl rfl ?_ | refine WL.gu rfl ?_); first | refine pvQ ?_ | (refine opk 3 rfl ?_; first | (refine ost_eqA rfl (by decide) rfl rfl tyQ tyQ (fun hc => ?_) (fun hc => ?_) <;> try exact prEQ) | (refine ost_neA rfl (by decide) rfl rfl tyQ tyQ (fun hc => ?_) (fun hc => ?_) <;> try exact prEQ) | (refine ost_cmp rfl rfl rfl rfl (fun hc => ?_) (fun hc => ?_) <;> (simp only [cmpP] at hc; try exact prIQ)) | (refine ost_streqB rfl rfl rfl (fun hc => ?_) (fun hc => ?_) <;> try exact prEQ) | (refine ost_strneB rfl rfl rfl (fun hc => ?_) (fun hc => ?_) <;> try exact prEQ) | (refine ost_streq rfl rfl rfl (fun hc => ?_) (fun hc => ?_) <;> try exact absurd rfl hc) | (refine ost_strne rfl rfl rfl (fun hc => ?_) (fun hc => ?_))) | (refine opk 4 rfl ?_; (refine ost_cmp rfl rfl rfl rfl (fun hc => ?_) (fun hc => ?_) <;> (simp only [cmpP] at hc; try exact prIQ))) | (refine opk 8 rfl ?_; (refine ost_storeW H rfl rfl rfl rfl lQ ixQ lQ okQ ?_; clear H; intro wk H; simp only [List.set_cons_zero, List.set_cons_succ, Nat.reduceAdd] at H)) | (refine opk 9 rfl ?_; first | (refine ost_boxq H rfl ?_; clear H; intro bk wk H) | (refine ost_allocA H rfl ?_; clear H; intro bk wk H))) | refine Wc.seq ?_ | refine then_n ?_ | refine WL.nil ?_ | refine Wc.region ?_ | refine Wc.block ?_ | refine then_r ?_ | refine then_e ?_ | refine inb_e rfl ?_ | refine inb_o rfl ?_ | refine inb_n ?_ | refine inb_r ?_ | refine Wc.skip ?_ | refine Wc.exit ?_ | refine Wc.ret ?_ | refine Wc.cond_true rfl ?_ | refine Wc.cond_false rfl ?_ | (refine Wc.drawn (id := 7) 14 (by kernel_rfl) ?_) | (refine Wc.drawn (id := 14) 15 (by kernel_rfl) ?_) | (refine Wc.drawn (id := 16) 10 (by kernel_rfl) ?_) | refine WL.skp rfl rfl ?_ | refine WL.sku rfl ?_ | (refine rgs_nil ?_; intro vs wk hE; replace H := H.ext hE; clear hE) | refine RGs.skp (fun _ => rfl) rfl ?_ | (refine RGs.bq (fun _ => rfl) rfl (by intro vs w hE hP; have H := H.ext hE; first | exact dbQ | fail) (fun hc => ?_) (fun hc => ?_) <;> ((try simp only [cmpP, decide_eq_true_eq, decide_eq_false_iff_not, dcd_iff, dcd_no] at hc); try exact prDQ)) | refine RGs.pq (fun _ => rfl) rfl (by intro vs w hE hP; have H := H.ext hE; first | exact dvQ | fail) ?_)
    all_goals first | (exfalso; omega) | exact fn_ret2 (v1 := .slice _ _ _) (v2 := .int _ _) rfl rfl rfl ⟨_, _, H.picks [] rfl (by decide), _, _, rfl, rfl, Sl.nil _ _⟩
  · have hbl : (b.take s.end_.toNat).length = s.end_.toNat := by rw [List.length_take]; omega
    have hrb : BS h0 a c (b.take s.end_.toNat) := hr.take _
    have hRD := fun (rb : Nat) (ai : Option Addr) (ci : Nat) w HO => ro_read rb a c (b.take s.end_.toNat) (by omega) 8192 (by omega) s.at_.toNat (by omega) ai ci [] h0 w hT hrb (by simp) HO
    have hln := rdF_len (b.take s.end_.toNat) 8192 [s.at_.toNat]
    repeat' (first | ((first | refine WL.p rfl ?_ | refine WL.u ?_ | refine WL.g rfl rfl ?_ | refine WL.gu rfl ?_); first | refine pvQ ?_ | (refine opk 3 rfl ?_; first | (refine ost_eqA rfl (by decide) rfl rfl tyQ tyQ (fun hc => ?_) (fun hc => ?_) <;> try exact prEQ) | (refine ost_neA rfl (by decide) rfl rfl tyQ tyQ (fun hc => ?_) (fun hc => ?_) <;> try exact prEQ) | (refine ost_cmp rfl rfl rfl rfl (fun hc => ?_) (fun hc => ?_) <;> (simp only [cmpP] at hc; try exact prIQ)) | (refine ost_streqB rfl rfl rfl (fun hc => ?_) (fun hc => ?_) <;> try exact prEQ) | (refine ost_strneB rfl rfl rfl (fun hc => ?_) (fun hc => ?_) <;> try exact prEQ) | (refine ost_streq rfl rfl rfl (fun hc => ?_) (fun hc => ?_) <;> try exact absurd rfl hc) | (refine ost_strne rfl rfl rfl (fun hc => ?_) (fun hc => ?_))) | (refine opk 4 rfl ?_; (refine ost_cmp rfl rfl rfl rfl (fun hc => ?_) (fun hc => ?_) <;> (simp only [cmpP] at hc; try exact prIQ))) | (refine opk 8 rfl ?_; (refine ost_storeW H rfl rfl rfl rfl lQ ixQ lQ okQ ?_; clear H; intro wk H; simp only [List.set_cons_zero, List.set_cons_succ, Nat.reduceAdd] at H)) | (refine opk 9 rfl ?_; first | (refine ost_boxq H rfl ?_; clear H; intro bk wk H) | (refine ost_allocA H rfl ?_; clear H; intro bk wk H))) | refine Wc.seq ?_ | refine then_n ?_ | refine WL.nil ?_ | refine Wc.region ?_ | refine Wc.block ?_ | refine then_r ?_ | refine then_e ?_ | refine inb_e rfl ?_ | refine inb_o rfl ?_ | refine inb_n ?_ | refine inb_r ?_ | refine Wc.skip ?_ | refine Wc.exit ?_ | refine Wc.ret ?_ | refine Wc.cond_true rfl ?_ | refine Wc.cond_false rfl ?_ | (refine Wc.drawn (id := 7) 14 (by kernel_rfl) ?_) | (refine Wc.drawn (id := 14) 15 (by kernel_rfl) ?_) | (refine Wc.drawn (id := 16) 10 (by kernel_rfl) ?_) | refine WL.skp rfl rfl ?_ | refine WL.sku rfl ?_ | (refine rgs_nil ?_; intro vs wk hE; replace H := H.ext hE; clear hE) | refine RGs.skp (fun _ => rfl) rfl ?_ | (refine RGs.bq (fun _ => rfl) rfl (by intro vs w hE hP; have H := H.ext hE; first | exact dbQ | fail) (fun hc => ?_) (fun hc => ?_) <;> ((try simp only [cmpP, decide_eq_true_eq, decide_eq_false_iff_not, dcd_iff, dcd_no] at hc); try exact prDQ)) | refine RGs.pq (fun _ => rfl) rfl (by intro vs w hE hP; have H := H.ext hE; first | exact dvQ | fail) ?_)
    all_goals first | (exfalso; omega) | skip
    have hEn : ((s.end_.toNat : Int)).toNat = (b.take s.end_.toNat).length := by rw [hbl]; rfl
    rw [hEn] at H ⊢
    have hL1 := @loadL_none b s hlt
    have hL2 := fun r => @loadL_no b s r hlt
    have hL3 := fun r => @loadL_yes b s r hlt
    generalize b.take s.end_.toNat = b' at *
    obtain ⟨rb, erb⟩ := H.nameB idx0
    subst erb
    obtain ⟨bt, ebt⟩ := H.nameB idx1
    subst ebt
    replace H : St w [] h0 h0 [rdH rb a c b' 8192 none 0 [], .blk bt (.cells (cSlot s).toArray 28 (0, 0))] _ := ((H.nilOwn 70 5).picks (L' := [.blk rb _, _, _]) [1, 0, 2] rfl (by decide)).join
    repeat' (first | ((first | refine WL.p rfl ?_ | refine WL.u ?_ | refine WL.g rfl rfl ?_ | refine WL.gu rfl ?_); first | (refine opk 1 rfl ?_; (refine ost_H (A := rdH _ _ _ _ _ _ _ _) H rfl (by (exact ixQ)) (fun HO => hRD _ _ _ _ HO) rfl ?_; clear H; rintro vk wk hfk Lk ⟨a2, c2, i2, l2, rfl, hz, hcase⟩ hle H; simp only [List.cons_append, List.nil_append, List.eraseIdx_cons_zero, List.eraseIdx_cons_succ] at H)) | refine pvQ ?_ | (refine opk 3 rfl ?_; first | (refine ost_eqA rfl (by decide) rfl rfl tyQ tyQ (fun hc => ?_) (fun hc => ?_) <;> try exact prEQ) | (refine ost_neA rfl (by decide) rfl rfl tyQ tyQ (fun hc => ?_) (fun hc => ?_) <;> try exact prEQ) | (refine ost_cmp rfl rfl rfl rfl (fun hc => ?_) (fun hc => ?_) <;> (simp only [cmpP] at hc; try exact prIQ)) | (refine ost_streqB rfl rfl rfl (fun hc => ?_) (fun hc => ?_) <;> try exact prEQ) | (refine ost_strneB rfl rfl rfl (fun hc => ?_) (fun hc => ?_) <;> try exact prEQ) | (refine ost_streq rfl rfl rfl (fun hc => ?_) (fun hc => ?_) <;> try exact absurd rfl hc) | (refine ost_strne rfl rfl rfl (fun hc => ?_) (fun hc => ?_))) | (refine opk 4 rfl ?_; (refine ost_cmp rfl rfl rfl rfl (fun hc => ?_) (fun hc => ?_) <;> (simp only [cmpP] at hc; try exact prIQ))) | (refine opk 8 rfl ?_; (refine ost_storeW H rfl rfl rfl rfl lQ ixQ lQ okQ ?_; clear H; intro wk H; simp only [List.set_cons_zero, List.set_cons_succ, Nat.reduceAdd] at H)) | (refine opk 9 rfl ?_; first | (refine ost_boxq H rfl ?_; clear H; intro bk wk H) | (refine ost_allocA H rfl ?_; clear H; intro bk wk H))) | refine Wc.seq ?_ | refine then_n ?_ | refine WL.nil ?_ | refine Wc.region ?_ | refine Wc.block ?_ | refine then_r ?_ | refine then_e ?_ | refine inb_e rfl ?_ | refine inb_o rfl ?_ | refine inb_n ?_ | refine inb_r ?_ | refine Wc.skip ?_ | refine Wc.exit ?_ | refine Wc.ret ?_ | refine Wc.cond_true rfl ?_ | refine Wc.cond_false rfl ?_ | (refine Wc.drawn (id := 7) 14 (by kernel_rfl) ?_) | (refine Wc.drawn (id := 14) 15 (by kernel_rfl) ?_) | (refine Wc.drawn (id := 16) 10 (by kernel_rfl) ?_) | refine WL.skp rfl rfl ?_ | refine WL.sku rfl ?_ | (refine rgs_nil ?_; intro vs wk hE; replace H := H.ext hE; clear hE) | refine RGs.skp (fun _ => rfl) rfl ?_ | (refine RGs.bq (fun _ => rfl) rfl (by intro vs w hE hP; have H := H.ext hE; first | exact dbQ | fail) (fun hc => ?_) (fun hc => ?_) <;> ((try simp only [cmpP, decide_eq_true_eq, decide_eq_false_iff_not, dcd_iff, dcd_no] at hc); try exact prDQ)) | refine RGs.pq (fun _ => rfl) rfl (by intro vs w hE hP; have H := H.ext hE; first | exact dvQ | fail) ?_)
    rcases hcase with ⟨r, hr9, rfl, rfl, rfl⟩ | ⟨rfl, hno⟩
    · obtain ⟨l, lf⟩ := r
      dsimp only at H hz
      rw [List.nil_append] at H hz
      have hno4 := hL2 _ hr9
      replace H := H.split
      by_cases hl4 : 4096 < l.length
      · rw [hno4 (fun h => absurd h.1 (by dsimp only; omega))]
        repeat' (first | ((first | refine WL.p rfl ?_ | refine WL.u ?_ | refine WL.g rfl rfl ?_ | refine WL.gu rfl ?_); first | refine pvQ ?_ | (refine opk 3 rfl ?_; first | (refine ost_eqA rfl (by decide) rfl rfl tyQ tyQ (fun hc => ?_) (fun hc => ?_) <;> try exact prEQ) | (refine ost_neA rfl (by decide) rfl rfl tyQ tyQ (fun hc => ?_) (fun hc => ?_) <;> try exact prEQ) | (refine ost_cmp rfl rfl rfl rfl (fun hc => ?_) (fun hc => ?_) <;> (simp only [cmpP] at hc; try exact prIQ)) | (refine ost_streqB rfl rfl rfl (fun hc => ?_) (fun hc => ?_) <;> try exact prEQ) | (refine ost_strneB rfl rfl rfl (fun hc => ?_) (fun hc => ?_) <;> try exact prEQ) | (refine ost_streq rfl rfl rfl (fun hc => ?_) (fun hc => ?_) <;> try exact absurd rfl hc) | (refine ost_strne rfl rfl rfl (fun hc => ?_) (fun hc => ?_))) | (refine opk 4 rfl ?_; (refine ost_cmp rfl rfl rfl rfl (fun hc => ?_) (fun hc => ?_) <;> (simp only [cmpP] at hc; try exact prIQ))) | (refine opk 8 rfl ?_; (refine ost_storeW H rfl rfl rfl rfl lQ ixQ lQ okQ ?_; clear H; intro wk H; simp only [List.set_cons_zero, List.set_cons_succ, Nat.reduceAdd] at H)) | (refine opk 9 rfl ?_; first | (refine ost_boxq H rfl ?_; clear H; intro bk wk H) | (refine ost_allocA H rfl ?_; clear H; intro bk wk H))) | refine Wc.seq ?_ | refine then_n ?_ | refine WL.nil ?_ | refine Wc.region ?_ | refine Wc.block ?_ | refine then_r ?_ | refine then_e ?_ | refine inb_e rfl ?_ | refine inb_o rfl ?_ | refine inb_n ?_ | refine inb_r ?_ | refine Wc.skip ?_ | refine Wc.exit ?_ | refine Wc.ret ?_ | refine Wc.cond_true rfl ?_ | refine Wc.cond_false rfl ?_ | (refine Wc.drawn (id := 7) 14 (by kernel_rfl) ?_) | (refine Wc.drawn (id := 14) 15 (by kernel_rfl) ?_) | (refine Wc.drawn (id := 16) 10 (by kernel_rfl) ?_) | refine WL.skp rfl rfl ?_ | refine WL.sku rfl ?_ | (refine rgs_nil ?_; intro vs wk hE; replace H := H.ext hE; clear hE) | refine RGs.skp (fun _ => rfl) rfl ?_ | (refine RGs.bq (fun _ => rfl) rfl (by intro vs w hE hP; have H := H.ext hE; first | exact dbQ | fail) (fun hc => ?_) (fun hc => ?_) <;> ((try simp only [cmpP, decide_eq_true_eq, decide_eq_false_iff_not, dcd_iff, dcd_no] at hc); try exact prDQ)) | refine RGs.pq (fun _ => rfl) rfl (by intro vs w hE hP; have H := H.ext hE; first | exact dvQ | fail) ?_)
        all_goals first | (exfalso; omega) | exact fn_ret2 (v1 := .slice _ _ _) (v2 := .int _ _) rfl rfl rfl ⟨_, _, H.picks [] rfl (by decide), _, _, rfl, rfl, Sl.nil _ _⟩
      · repeat' (first | ((first | refine WL.p rfl ?_ | refine WL.u ?_ | refine WL.g rfl rfl ?_ | refine WL.gu rfl ?_); first | refine pvQ ?_ | (refine opk 3 rfl ?_; first | (refine ost_eqA rfl (by decide) rfl rfl tyQ tyQ (fun hc => ?_) (fun hc => ?_) <;> try exact prEQ) | (refine ost_neA rfl (by decide) rfl rfl tyQ tyQ (fun hc => ?_) (fun hc => ?_) <;> try exact prEQ) | (refine ost_cmp rfl rfl rfl rfl (fun hc => ?_) (fun hc => ?_) <;> (simp only [cmpP] at hc; try exact prIQ)) | (refine ost_streqB rfl rfl rfl (fun hc => ?_) (fun hc => ?_) <;> try exact prEQ) | (refine ost_strneB rfl rfl rfl (fun hc => ?_) (fun hc => ?_) <;> try exact prEQ) | (refine ost_streq rfl rfl rfl (fun hc => ?_) (fun hc => ?_) <;> try exact absurd rfl hc) | (refine ost_strne rfl rfl rfl (fun hc => ?_) (fun hc => ?_))) | (refine opk 4 rfl ?_; (refine ost_cmp rfl rfl rfl rfl (fun hc => ?_) (fun hc => ?_) <;> (simp only [cmpP] at hc; try exact prIQ))) | (refine opk 8 rfl ?_; (refine ost_storeW H rfl rfl rfl rfl lQ ixQ lQ okQ ?_; clear H; intro wk H; simp only [List.set_cons_zero, List.set_cons_succ, Nat.reduceAdd] at H)) | (refine opk 9 rfl ?_; first | (refine ost_boxq H rfl ?_; clear H; intro bk wk H) | (refine ost_allocA H rfl ?_; clear H; intro bk wk H))) | refine Wc.seq ?_ | refine then_n ?_ | refine WL.nil ?_ | refine Wc.region ?_ | refine Wc.block ?_ | refine then_r ?_ | refine then_e ?_ | refine inb_e rfl ?_ | refine inb_o rfl ?_ | refine inb_n ?_ | refine inb_r ?_ | refine Wc.skip ?_ | refine Wc.exit ?_ | refine Wc.ret ?_ | refine Wc.cond_true rfl ?_ | refine Wc.cond_false rfl ?_ | (refine Wc.drawn (id := 14) 15 (by kernel_rfl) ?_) | (refine Wc.drawn (id := 16) 10 (by kernel_rfl) ?_) | refine WL.skp rfl rfl ?_ | refine WL.sku rfl ?_ | (refine rgs_nil ?_; intro vs wk hE; replace H := H.ext hE; clear hE) | refine RGs.skp (fun _ => rfl) rfl ?_ | (refine RGs.bq (fun _ => rfl) rfl (by intro vs w hE hP; have H := H.ext hE; first | exact dbQ | fail) (fun hc => ?_) (fun hc => ?_) <;> ((try simp only [cmpP, decide_eq_true_eq, decide_eq_false_iff_not, dcd_iff, dcd_no] at hc); try exact prDQ)) | refine RGs.pq (fun _ => rfl) rfl (by intro vs w hE hP; have H := H.ext hE; first | exact dvQ | fail) ?_)
        all_goals first | (exfalso; omega) | skip
        replace H := H.picks (L' := [_, _, _]) [1, 0, 2] rfl (by decide)
        obtain ⟨a8, c8, h7, e8, hle9, hI7, H7⟩ := H.freezeR (rows_len5 _)
        clear H
        have H := H7
        clear H7
        injection e8 with e81 e82 e83
        subst e81; subst e83
        have hT7 := hT.mono (hle.trans hle9)
        have hD := fun (x : Int) h w hs hT hN => ro_Dump h w hs hT a2 c2 l hN s.ver x
        refine Wc.drawC (id := 7) 14 [cmD 6 (dumpM l s.ver 0), cmS 11 13 (dumpM l s.ver 0).2.1] [.blk _ _, .blk _ _] [(6, 999), (11, 13)] H (by kernel_rfl) rfl (by kernel_rfl) (by first | exact List.Perm.refl _ | (simp [inpC, cmD, cmS]; done)) ?_
        refine RGc.p rfl rfl (by intro vs w T hP H; simp only [List.cons_append, List.nil_append] at H; exact dvQ) ?_
        refine RGc.p rfl rfl (by intro vs w T hP H; simp only [List.cons_append, List.nil_append] at H; exact dvQ) ?_
        refine RGc.p rfl rfl (by intro vs w T hP H; simp only [List.cons_append, List.nil_append] at H; exact dvQ) ?_
        refine RGc.p rfl rfl (by intro vs w T hP H; simp only [List.cons_append, List.nil_append] at H; exact dvQ) ?_
        refine RGc.p rfl rfl (by intro vs w T hP H; simp only [List.cons_append, List.nil_append] at H; exact dvQ) ?_
        refine RGc.p rfl rfl (by intro vs w T hP H; simp only [List.cons_append, List.nil_append] at H; exact dvQ) ?_
        refine RGc.m (m := (cmD 6 (dumpM l s.ver 0))) rfl (by intro vs w T hP H; refine ost_C H rfl (hD 0 _ _ (sat_full _) (hT7.full H) (hI7.mono H.sat.le)) rfl ?_; rintro vk wk hfk Lk ⟨rfl, a9, c9, rfl, rfl⟩ H2; exact ⟨[_], ⟨a9, c9, rfl, rfl⟩, H2⟩) ?_
        refine RGc.v (fun v => v) 6 [] (by kernel_rfl) rfl rfl rfl (by intro vs w T hP H; exact dvQ) ?_
        refine RGc.v (tupG 0) 6 [7] (by kernel_rfl) rfl rfl rfl (by intro vs w T hP H; obtain ⟨L9, ⟨a9, c9, e9, -⟩, -⟩ := hP 6 _ ⟨[7], by kernel_rfl⟩ rfl; refine ost_extract rfl e9 rfl ?_; exact ⟨Fr.refl _ _, by rw [e9]; rfl⟩) ?_
        refine RGc.v (tupG 1) 6 [7] (by kernel_rfl) rfl rfl rfl (by intro vs w T hP H; obtain ⟨L9, ⟨a9, c9, e9, -⟩, -⟩ := hP 6 _ ⟨[7], by kernel_rfl⟩ rfl; refine ost_extract rfl e9 rfl ?_; exact ⟨Fr.refl _ _, by rw [e9]; rfl⟩) ?_
        refine RGc.v (tupG 2) 6 [7] (by kernel_rfl) rfl rfl rfl (by intro vs w T hP H; obtain ⟨L9, ⟨a9, c9, e9, -⟩, -⟩ := hP 6 _ ⟨[7], by kernel_rfl⟩ rfl; refine ost_extract rfl e9 rfl ?_; exact ⟨Fr.refl _ _, by rw [e9]; rfl⟩) ?_
        refine RGc.m (m := (cmS 11 13 (dumpM l s.ver 0).2.1)) rfl (by intro vs w T hP H; refine ost_allocA H rfl ?_; intro bk wk H2; exact ⟨[_], ⟨_, rfl, rfl⟩, H2⟩) ?_
        refine RGc.v (tupG 0) 6 [8, 7] (by kernel_rfl) rfl rfl rfl (by intro vs w T hP H; exact dvQ) ?_
        refine RGc.s (m := (cmS 11 13 (dumpM l s.ver 0).2.1)) rfl rfl (by intro vs w T L1 hP h1 H; obtain ⟨b9, e9, rfl⟩ := h1; obtain ⟨L9, ⟨a8, c8, e8, -⟩, -⟩ := hP 6 _ ⟨[9, 7], by kernel_rfl⟩ rfl; refine ost_storeW (i := 0) (vs := cSlot (dumpM l s.ver 0).2.1) H rfl rfl e9 (show tupG 1 (vs 6) = _ by rw [e8]; rfl) rfl rfl rfl (allOne_of rfl) ?_; intro wk H2; exact ⟨[_], ⟨_, e9, rfl⟩, H2⟩) ?_
        refine RGc.nil ?_
        intro vs wk outs HM hR
        obtain ⟨a6, c6, e6, o6⟩ := (hR (cmD 6 (dumpM l s.ver 0)) (by simp)).2 (by simp [cmD])
        obtain ⟨b11, e11, o11⟩ := (hR (cmS 11 13 (dumpM l s.ver 0).2.1) (by simp)).1 (by simp [cmS])
        have e11' : vs (0 + 1 + 1 + 1 + 1 + 1 + 1 + 1 + 1 + 1 + 1 + 1) = pt b11 := e11
        have o6' : outs 6 = _ := o6
        have o11' : outs 11 = _ := o11
        have e6' : vs 6 = _ := e6
        have e6'' : vs (0 + 1 + 1 + 1 + 1 + 1 + 1) = _ := e6
        simp only [outsC, cmD, cmS, o6', o11', List.cons_append, List.nil_append, List.append_nil] at HM
        dsimp only
        rw [e6']
        try rw [e6'']
        rw [e11']
        simp only [tupG0, tupG1, tupG2]
        replace H := HM
        clear HM hR o6 o11 e6 e11 e6' e6'' e11' o6' o11'
        have hde := fun (x : Nat) (hx : x ≤ 1073741824) => dumpM_err l s.ver s.ver hx (Nat.zero_le _)
        have hdl := @dumpM_ok l s.ver 0
        have hno5 : (dumpM l s.ver 0).2.2 ≠ 0 → loadL b s = ([], 15) := fun h0 => hno4 fun ⟨_, x, hx, e⟩ => h0 (by
          have := hde x (by omega)
          rw [show ((0 : Nat) : Int) = 0 from rfl] at this
          rw [← this]; dsimp only at e; rw [e])
        have hn9 := dumpM_len l s.ver 0
        have hE9 : b'.length ≤ 40960 := by omega
        repeat' (first | ((first | refine WL.p rfl ?_ | refine WL.u ?_ | refine WL.g rfl rfl ?_ | refine WL.gu rfl ?_); first | refine pvQ ?_ | (refine opk 3 rfl ?_; first | (refine ost_eqA rfl (by decide) rfl rfl tyQ tyQ (fun hc => ?_) (fun hc => ?_) <;> try exact prEQ) | (refine ost_neA rfl (by decide) rfl rfl tyQ tyQ (fun hc => ?_) (fun hc => ?_) <;> try exact prEQ) | (refine ost_cmp rfl rfl rfl rfl (fun hc => ?_) (fun hc => ?_) <;> (simp only [cmpP] at hc; try exact prIQ)) | (refine ost_streqB rfl rfl rfl (fun hc => ?_) (fun hc => ?_) <;> try exact prEQ) | (refine ost_strneB rfl rfl rfl (fun hc => ?_) (fun hc => ?_) <;> try exact prEQ) | (refine ost_streq rfl rfl rfl (fun hc => ?_) (fun hc => ?_) <;> try exact absurd rfl hc) | (refine ost_strne rfl rfl rfl (fun hc => ?_) (fun hc => ?_))) | (refine opk 4 rfl ?_; (refine ost_cmp rfl rfl rfl rfl (fun hc => ?_) (fun hc => ?_) <;> (simp only [cmpP] at hc; try exact prIQ))) | (refine opk 8 rfl ?_; (refine ost_storeW H rfl rfl rfl rfl lQ ixQ lQ okQ ?_; clear H; intro wk H; simp only [List.set_cons_zero, List.set_cons_succ, Nat.reduceAdd] at H)) | (refine opk 9 rfl ?_; first | (refine ost_boxq H rfl ?_; clear H; intro bk wk H) | (refine ost_allocA H rfl ?_; clear H; intro bk wk H))) | refine Wc.seq ?_ | refine then_n ?_ | refine WL.nil ?_ | refine Wc.region ?_ | refine Wc.block ?_ | refine then_r ?_ | refine then_e ?_ | refine inb_e rfl ?_ | refine inb_o rfl ?_ | refine inb_n ?_ | refine inb_r ?_ | refine Wc.skip ?_ | refine Wc.exit ?_ | refine Wc.ret ?_ | refine Wc.cond_true rfl ?_ | refine Wc.cond_false rfl ?_ | (refine Wc.drawn (id := 7) 14 (by kernel_rfl) ?_) | (refine Wc.drawn (id := 14) 15 (by kernel_rfl) ?_) | (refine Wc.drawn (id := 16) 10 (by kernel_rfl) ?_) | refine WL.skp rfl rfl ?_ | refine WL.sku rfl ?_ | (refine rgs_nil ?_; intro vs wk hE; replace H := H.ext hE; clear hE) | refine RGs.skp (fun _ => rfl) rfl ?_ | (refine RGs.bq (fun _ => rfl) rfl (by intro vs w hE hP; have H := H.ext hE; first | exact dbQ | fail) (fun hc => ?_) (fun hc => ?_) <;> ((try simp only [cmpP, decide_eq_true_eq, decide_eq_false_iff_not, dcd_iff, dcd_no] at hc); try exact prDQ)) | refine RGs.pq (fun _ => rfl) rfl (by intro vs w hE hP; have H := H.ext hE; first | exact dvQ | fail) ?_)
        · rw [hno5 (by assumption)]
          exact fn_ret2 (v1 := .slice _ _ _) (v2 := .int _ _) rfl rfl rfl ⟨_, _, H.picks [] rfl (by decide), _, _, rfl, rfl, Sl.nil _ _⟩
        have hd0 : (dumpM l s.ver 0).2.2 = 0 := Decidable.not_not.1 (by assumption)
        have hmx : max (0 : Int) ((b'.length : Int) - ((dumpM l s.ver 0).1.length + 40960)) = (0 : Nat) := by omega
        rw [hmx]
        replace H := H.picks (L' := [_, _]) [0, 1] rfl (by decide)
        refine Wc.loopE (fun s0 m s9 w' => ∃ (j : Nat), m = b'.length + 1 - j ∧ j ≤ b'.length + 1 ∧ Agree [4, 5, 11, 12, 13, 14, 63, 64, 65, 66, 67, 68, 69, 70, 71, 72, 73, 74, 75, 76, 77, 78, 79, 80, 81, 82, 83, 84, 85, 86, 87, 88, 89, 90, 91, 92, 93, 94, 95, 96, 97, 98] s9 s0 ∧ s9 11 = .int .i64 j ∧ (∀ x, x < j → dumpM l s.ver (x : Nat) ≠ (b'.drop x, s, 0)) ∧
          St w [] h0 h7 [.blk rb (.cells [Value.slice a b'.length c, .int .i64 lf, .slice a2 l.length c2].toArray 94 (0, 0)), .blk bt (.cells (cSlot s).toArray 28 (0, 0))] w') _ ⟨0, rfl, by omega, Agree.refl _ _, rfl, fun x hx => absurd hx (by omega), H⟩ ?_
        clear H
        rintro m s9 w' ⟨j, rfl, hj, hA, e1, hno, H⟩
        obtain ⟨j9, rfl⟩ := hA.env1 e1
        clear hA e1
        by_cases hjl : j ≤ b'.length
        · repeat' (first | ((first | refine WL.p rfl ?_ | refine WL.u ?_ | refine WL.g rfl rfl ?_ | refine WL.gu rfl ?_); first | refine pvQ ?_ | (refine opk 3 rfl ?_; first | (refine ost_eqA rfl (by decide) rfl rfl tyQ tyQ (fun hc => ?_) (fun hc => ?_) <;> try exact prEQ) | (refine ost_neA rfl (by decide) rfl rfl tyQ tyQ (fun hc => ?_) (fun hc => ?_) <;> try exact prEQ) | (refine ost_cmp rfl rfl rfl rfl (fun hc => ?_) (fun hc => ?_) <;> (simp only [cmpP] at hc; try exact prIQ)) | (refine ost_streqB rfl rfl rfl (fun hc => ?_) (fun hc => ?_) <;> try exact prEQ) | (refine ost_strneB rfl rfl rfl (fun hc => ?_) (fun hc => ?_) <;> try exact prEQ) | (refine ost_streq rfl rfl rfl (fun hc => ?_) (fun hc => ?_) <;> try exact absurd rfl hc) | (refine ost_strne rfl rfl rfl (fun hc => ?_) (fun hc => ?_))) | (refine opk 4 rfl ?_; (refine ost_cmp rfl rfl rfl rfl (fun hc => ?_) (fun hc => ?_) <;> (simp only [cmpP] at hc; try exact prIQ))) | (refine opk 8 rfl ?_; (refine ost_storeW H rfl rfl rfl rfl lQ ixQ lQ okQ ?_; clear H; intro wk H; simp only [List.set_cons_zero, List.set_cons_succ, Nat.reduceAdd] at H)) | (refine opk 9 rfl ?_; first | (refine ost_boxq H rfl ?_; clear H; intro bk wk H) | (refine ost_allocA H rfl ?_; clear H; intro bk wk H))) | refine Wc.seq ?_ | refine then_n ?_ | refine WL.nil ?_ | refine Wc.region ?_ | refine Wc.block ?_ | refine then_r ?_ | refine then_e ?_ | refine inb_e rfl ?_ | refine inb_o rfl ?_ | refine inb_n ?_ | refine inb_r ?_ | refine Wc.skip ?_ | refine Wc.exit ?_ | refine Wc.ret ?_ | refine Wc.cond_true rfl ?_ | refine Wc.cond_false rfl ?_ | (refine Wc.drawn (id := 7) 14 (by kernel_rfl) ?_) | (refine Wc.drawn (id := 16) 10 (by kernel_rfl) ?_) | refine WL.skp rfl rfl ?_ | refine WL.sku rfl ?_ | (refine rgs_nil ?_; intro vs wk hE; replace H := H.ext hE; clear hE) | refine RGs.skp (fun _ => rfl) rfl ?_ | (refine RGs.bq (fun _ => rfl) rfl (by intro vs w hE hP; have H := H.ext hE; first | exact dbQ | fail) (fun hc => ?_) (fun hc => ?_) <;> ((try simp only [cmpP, decide_eq_true_eq, decide_eq_false_iff_not, dcd_iff, dcd_no] at hc); try exact prDQ)) | refine RGs.pq (fun _ => rfl) rfl (by intro vs w hE hP; have H := H.ext hE; first | exact dvQ | fail) ?_)
          refine Wc.drawC (id := 14) 15 [cmD 7 (dumpM l s.ver (j : Int)), cmS 12 14 (dumpM l s.ver (j : Int)).2.1] [.blk _ _, .blk _ _] [(7, 999), (12, 14)] H (by kernel_rfl) rfl (by kernel_rfl) (by first | exact List.Perm.refl _ | (simp [inpC, cmD, cmS]; done)) ?_
          refine RGc.p rfl rfl (by intro vs w T hP H; simp only [List.cons_append, List.nil_append] at H; exact dvQ) ?_
          refine RGc.p rfl rfl (by intro vs w T hP H; simp only [List.cons_append, List.nil_append] at H; exact dvQ) ?_
          refine RGc.p rfl rfl (by intro vs w T hP H; simp only [List.cons_append, List.nil_append] at H; exact dvQ) ?_
          refine RGc.p rfl rfl (by intro vs w T hP H; simp only [List.cons_append, List.nil_append] at H; exact dvQ) ?_
          refine RGc.p rfl rfl (by intro vs w T hP H; simp only [List.cons_append, List.nil_append] at H; exact dvQ) ?_
          refine RGc.p rfl rfl (by intro vs w T hP H; simp only [List.cons_append, List.nil_append] at H; exact dvQ) ?_
          refine RGc.p rfl rfl (by intro vs w T hP H; simp only [List.cons_append, List.nil_append] at H; exact dvQ) ?_
          refine RGc.m (m := (cmD 7 (dumpM l s.ver (j : Int)))) rfl (by intro vs w T hP H; refine ost_C H rfl (hD (j : Int) _ _ (sat_full _) (hT7.full H) (hI7.mono H.sat.le)) rfl ?_; rintro vk wk hfk Lk ⟨rfl, a9, c9, rfl, rfl⟩ H2; exact ⟨[_], ⟨a9, c9, rfl, rfl⟩, H2⟩) ?_
          refine RGc.v (fun v => v) 7 [] (by kernel_rfl) rfl rfl rfl (by intro vs w T hP H; exact dvQ) ?_
          refine RGc.v (tupG 0) 7 [8] (by kernel_rfl) rfl rfl rfl (by intro vs w T hP H; obtain ⟨L9, ⟨a9, c9, e9, -⟩, -⟩ := hP 7 _ ⟨[8], by kernel_rfl⟩ rfl; refine ost_extract rfl e9 rfl ?_; exact ⟨Fr.refl _ _, by rw [e9]; rfl⟩) ?_
          refine RGc.v (tupG 1) 7 [8] (by kernel_rfl) rfl rfl rfl (by intro vs w T hP H; obtain ⟨L9, ⟨a9, c9, e9, -⟩, -⟩ := hP 7 _ ⟨[8], by kernel_rfl⟩ rfl; refine ost_extract rfl e9 rfl ?_; exact ⟨Fr.refl _ _, by rw [e9]; rfl⟩) ?_
          refine RGc.v (tupG 2) 7 [8] (by kernel_rfl) rfl rfl rfl (by intro vs w T hP H; obtain ⟨L9, ⟨a9, c9, e9, -⟩, -⟩ := hP 7 _ ⟨[8], by kernel_rfl⟩ rfl; refine ost_extract rfl e9 rfl ?_; exact ⟨Fr.refl _ _, by rw [e9]; rfl⟩) ?_
          refine RGc.m (m := (cmS 12 14 (dumpM l s.ver (j : Int)).2.1)) rfl (by intro vs w T hP H; refine ost_allocA H rfl ?_; intro bk wk H2; exact ⟨[_], ⟨_, rfl, rfl⟩, H2⟩) ?_
          refine RGc.v (tupG 0) 7 [9, 8] (by kernel_rfl) rfl rfl rfl (by intro vs w T hP H; exact dvQ) ?_
          refine RGc.s (m := (cmS 12 14 (dumpM l s.ver (j : Int)).2.1)) rfl rfl (by intro vs w T L1 hP h1 H; obtain ⟨b9, e9, rfl⟩ := h1; obtain ⟨L9, ⟨a8, c8, e8, -⟩, -⟩ := hP 7 _ ⟨[10, 8], by kernel_rfl⟩ rfl; refine ost_storeW (i := 0) (vs := cSlot (dumpM l s.ver (j : Int)).2.1) H rfl rfl e9 (show tupG 1 (vs 7) = _ by rw [e8]; rfl) rfl rfl rfl (allOne_of rfl) ?_; intro wk H2; exact ⟨[_], ⟨_, e9, rfl⟩, H2⟩) ?_
          refine RGc.nil ?_
          intro vs wk outs HM hR
          obtain ⟨a6, c6, e6, o6⟩ := (hR (cmD 7 (dumpM l s.ver (j : Int))) (by simp)).2 (by simp [cmD])
          obtain ⟨b11, e11, o11⟩ := (hR (cmS 12 14 (dumpM l s.ver (j : Int)).2.1) (by simp)).1 (by simp [cmS])
          have e11' : vs (0 + 1 + 1 + 1 + 1 + 1 + 1 + 1 + 1 + 1 + 1 + 1 + 1) = pt b11 := e11
          have o6' : outs 7 = _ := o6
          have o11' : outs 12 = _ := o11
          have e6' : vs 7 = _ := e6
          have e6'' : vs (0 + 1 + 1 + 1 + 1 + 1 + 1 + 1) = _ := e6
          simp only [outsC, cmD, cmS, o6', o11', List.cons_append, List.nil_append, List.append_nil] at HM
          dsimp only
          rw [e6']
          try rw [e6'']
          rw [e11']
          simp only [tupG0, tupG1, tupG2]
          replace H := HM
          clear HM hR o6 o11 e6 e11 e6' e6'' e11' o6' o11'
          have hdj : (dumpM l s.ver (j : Int)).2.2 = 0 := (hde j (by omega)).trans hd0
          have hdl9 := dumpM_len l s.ver (j : Int)
          have hyes : dumpM l s.ver (j : Int) = (b'.drop j, s, 0) → loadL b s = (l, 0) := fun h => hL3 _ hr9 ⟨by dsimp only; omega, j, by omega, h⟩
          have hnx : dumpM l s.ver (j : Int) ≠ (b'.drop j, s, 0) → ∀ x, x < j + 1 → dumpM l s.ver (x : Nat) ≠ (b'.drop x, s, 0) := fun h x hx => by
            by_cases hxj : x = j
            · subst hxj; exact h
            · exact hno x (by omega)
          clear hno
          generalize dumpM l s.ver (j : Int) = D at *
          obtain ⟨B9, s9, e9⟩ := D
          dsimp only at hdj hdl9 H ⊢
          subst hdj
          have hrj := (hrb.mono (hle.trans hle9)).drop (n := j) (by omega)
          have hnj : (b'.drop j).length = b'.length - j := by rw [List.length_drop]
          by_cases h1 : s9 = s
          · subst h1
            by_cases h2 : B9 = b'.drop j
            · subst h2
              rw [hyes rfl]
              repeat' (first | ((first | refine WL.p rfl ?_ | refine WL.u ?_ | refine WL.g rfl rfl ?_ | refine WL.gu rfl ?_); first | refine pvQ ?_ | (refine opk 3 rfl ?_; first | (refine ost_eqA rfl (by decide) rfl rfl tyQ tyQ (fun hc => ?_) (fun hc => ?_) <;> try exact prEQ) | (refine ost_neA rfl (by decide) rfl rfl tyQ tyQ (fun hc => ?_) (fun hc => ?_) <;> try exact prEQ) | (refine ost_cmp rfl rfl rfl rfl (fun hc => ?_) (fun hc => ?_) <;> (simp only [cmpP] at hc; try exact prIQ)) | (refine ost_streqB rfl rfl rfl (fun hc => ?_) (fun hc => ?_) <;> try exact prEQ) | (refine ost_strneB rfl rfl rfl (fun hc => ?_) (fun hc => ?_) <;> try exact prEQ) | (refine ost_streq rfl rfl rfl (fun hc => ?_) (fun hc => ?_) <;> try exact absurd rfl hc) | (refine ost_strne rfl rfl rfl (fun hc => ?_) (fun hc => ?_))) | (refine opk 4 rfl ?_; (refine ost_cmp rfl rfl rfl rfl (fun hc => ?_) (fun hc => ?_) <;> (simp only [cmpP] at hc; try exact prIQ))) | (refine opk 8 rfl ?_; (refine ost_storeW H rfl rfl rfl rfl lQ ixQ lQ okQ ?_; clear H; intro wk H; simp only [List.set_cons_zero, List.set_cons_succ, Nat.reduceAdd] at H)) | (refine opk 9 rfl ?_; first | (refine ost_boxq H rfl ?_; clear H; intro bk wk H) | (refine ost_allocA H rfl ?_; clear H; intro bk wk H))) | refine Wc.seq ?_ | refine then_n ?_ | refine WL.nil ?_ | refine Wc.region ?_ | refine Wc.block ?_ | refine then_r ?_ | refine then_e ?_ | refine inb_e rfl ?_ | refine inb_o rfl ?_ | refine inb_n ?_ | refine inb_r ?_ | refine Wc.skip ?_ | refine Wc.exit ?_ | refine Wc.ret ?_ | refine Wc.cond_true rfl ?_ | refine Wc.cond_false rfl ?_ | (refine Wc.drawn (id := 7) 14 (by kernel_rfl) ?_) | (refine Wc.drawn (id := 14) 15 (by kernel_rfl) ?_) | (refine Wc.drawn (id := 16) 10 (by kernel_rfl) ?_) | refine WL.skp rfl rfl ?_ | refine WL.sku rfl ?_ | (refine rgs_nil ?_; intro vs wk hE; replace H := H.ext hE; clear hE) | refine RGs.skp (fun _ => rfl) rfl ?_ | (refine RGs.bq (fun _ => rfl) rfl (by intro vs w hE hP; have H := H.ext hE; first | exact dbQ | fail) (fun hc => ?_) (fun hc => ?_) <;> ((try simp only [cmpP, decide_eq_true_eq, decide_eq_false_iff_not, dcd_iff, dcd_no] at hc); try exact prDQ)) | refine RGs.pq (fun _ => rfl) rfl (by intro vs w hE hP; have H := H.ext hE; first | (refine opk 6 rfl ?_; first | (refine ost_toStrN (xs := b'.drop j) rfl rfl (by first | rfl | (simp; omega)) (H.own8rd (by (exact ixQ))) ?_; exact ⟨Fr.refl _ _, rfl⟩) | (refine ost_toStrN (xs := b'.drop j) rfl rfl (by simp) (hrj.full H) ?_; exact ⟨Fr.refl _ _, rfl⟩)) | exact dvQ | fail) ?_)
              all_goals first | (exfalso; omega) | exact fn_ret2 (v1 := .slice _ _ _) (v2 := .int _ _) rfl rfl rfl ⟨_, _, H.picks [] rfl (by decide), _, _, rfl, rfl, hI7⟩ | exact absurd rfl ‹¬ _ = _›
            · have hnx := hnx (by intro h; injection h with h3 h4; exact h2 h3)
              repeat' (first | ((first | refine WL.p rfl ?_ | refine WL.u ?_ | refine WL.g rfl rfl ?_ | refine WL.gu rfl ?_); first | refine pvQ ?_ | (refine opk 3 rfl ?_; first | (refine ost_eqA rfl (by decide) rfl rfl tyQ tyQ (fun hc => ?_) (fun hc => ?_) <;> try exact prEQ) | (refine ost_neA rfl (by decide) rfl rfl tyQ tyQ (fun hc => ?_) (fun hc => ?_) <;> try exact prEQ) | (refine ost_cmp rfl rfl rfl rfl (fun hc => ?_) (fun hc => ?_) <;> (simp only [cmpP] at hc; try exact prIQ)) | (refine ost_streqB rfl rfl rfl (fun hc => ?_) (fun hc => ?_) <;> try exact prEQ) | (refine ost_strneB rfl rfl rfl (fun hc => ?_) (fun hc => ?_) <;> try exact prEQ) | (refine ost_streq rfl rfl rfl (fun hc => ?_) (fun hc => ?_) <;> try exact absurd rfl hc) | (refine ost_strne rfl rfl rfl (fun hc => ?_) (fun hc => ?_))) | (refine opk 4 rfl ?_; (refine ost_cmp rfl rfl rfl rfl (fun hc => ?_) (fun hc => ?_) <;> (simp only [cmpP] at hc; try exact prIQ))) | (refine opk 8 rfl ?_; (refine ost_storeW H rfl rfl rfl rfl lQ ixQ lQ okQ ?_; clear H; intro wk H; simp only [List.set_cons_zero, List.set_cons_succ, Nat.reduceAdd] at H)) | (refine opk 9 rfl ?_; first | (refine ost_boxq H rfl ?_; clear H; intro bk wk H) | (refine ost_allocA H rfl ?_; clear H; intro bk wk H))) | refine Wc.seq ?_ | refine then_n ?_ | refine WL.nil ?_ | refine Wc.region ?_ | refine Wc.block ?_ | refine then_r ?_ | refine then_e ?_ | refine inb_e rfl ?_ | refine inb_o rfl ?_ | refine inb_n ?_ | refine inb_r ?_ | refine Wc.skip ?_ | refine Wc.exit ?_ | refine Wc.ret ?_ | refine Wc.cond_true rfl ?_ | refine Wc.cond_false rfl ?_ | (refine Wc.drawn (id := 7) 14 (by kernel_rfl) ?_) | (refine Wc.drawn (id := 14) 15 (by kernel_rfl) ?_) | (refine Wc.drawn (id := 16) 10 (by kernel_rfl) ?_) | refine WL.skp rfl rfl ?_ | refine WL.sku rfl ?_ | (refine rgs_nil ?_; intro vs wk hE; replace H := H.ext hE; clear hE) | refine RGs.skp (fun _ => rfl) rfl ?_ | (refine RGs.bq (fun _ => rfl) rfl (by intro vs w hE hP; have H := H.ext hE; first | exact dbQ | fail) (fun hc => ?_) (fun hc => ?_) <;> ((try simp only [cmpP, decide_eq_true_eq, decide_eq_false_iff_not, dcd_iff, dcd_no] at hc); try exact prDQ)) | refine RGs.pq (fun _ => rfl) rfl (by intro vs w hE hP; have H := H.ext hE; first | (refine opk 6 rfl ?_; first | (refine ost_toStrN (xs := B9) rfl rfl (by first | rfl | (simp; omega)) (H.own8rd (by (exact ixQ))) ?_; exact ⟨Fr.refl _ _, rfl⟩) | (refine ost_toStrN (xs := b'.drop j) rfl rfl (by simp) (hrj.full H) ?_; exact ⟨Fr.refl _ _, rfl⟩)) | exact dvQ | fail) ?_)
              all_goals first | (exfalso; omega) | exact ⟨b'.length + 1 - (j + 1), by omega, j + 1, rfl, by omega, by (repeat' (first | exact Agree.refl _ _ | exact Agree.havoc | refine Agree.upd rfl ?_ | refine Agree.hav2 rfl ?_)), rfl, hnx, H.picks [0, 1] rfl (by decide)⟩ | exact absurd rfl ‹¬ _ = _›
          · have hnx := hnx (by intro h; injection h with h3 h4; injection h4 with h4 h5; exact h1 h4)
            have hsn : cSlot s9 ≠ cSlot s := fun h => h1 (cSlot_inj.1 h)
            repeat' (first | ((first | refine WL.p rfl ?_ | refine WL.u ?_ | refine WL.g rfl rfl ?_ | refine WL.gu rfl ?_); first | refine pvQ ?_ | (refine opk 3 rfl ?_; first | (refine ost_eqA rfl (by decide) rfl rfl tyQ tyQ (fun hc => ?_) (fun hc => ?_) <;> try exact prEQ) | (refine ost_neA rfl (by decide) rfl rfl tyQ tyQ (fun hc => ?_) (fun hc => ?_) <;> try exact prEQ) | (refine ost_cmp rfl rfl rfl rfl (fun hc => ?_) (fun hc => ?_) <;> (simp only [cmpP] at hc; try exact prIQ)) | (refine ost_streqB rfl rfl rfl (fun hc => ?_) (fun hc => ?_) <;> try exact prEQ) | (refine ost_strneB rfl rfl rfl (fun hc => ?_) (fun hc => ?_) <;> try exact prEQ) | (refine ost_streq rfl rfl rfl (fun hc => ?_) (fun hc => ?_) <;> try exact absurd rfl hc) | (refine ost_strne rfl rfl rfl (fun hc => ?_) (fun hc => ?_))) | (refine opk 4 rfl ?_; (refine ost_cmp rfl rfl rfl rfl (fun hc => ?_) (fun hc => ?_) <;> (simp only [cmpP] at hc; try exact prIQ))) | (refine opk 8 rfl ?_; (refine ost_storeW H rfl rfl rfl rfl lQ ixQ lQ okQ ?_; clear H; intro wk H; simp only [List.set_cons_zero, List.set_cons_succ, Nat.reduceAdd] at H)) | (refine opk 9 rfl ?_; first | (refine ost_boxq H rfl ?_; clear H; intro bk wk H) | (refine ost_allocA H rfl ?_; clear H; intro bk wk H))) | refine Wc.seq ?_ | refine then_n ?_ | refine WL.nil ?_ | refine Wc.region ?_ | refine Wc.block ?_ | refine then_r ?_ | refine then_e ?_ | refine inb_e rfl ?_ | refine inb_o rfl ?_ | refine inb_n ?_ | refine inb_r ?_ | refine Wc.skip ?_ | refine Wc.exit ?_ | refine Wc.ret ?_ | refine Wc.cond_true rfl ?_ | refine Wc.cond_false rfl ?_ | (refine Wc.drawn (id := 7) 14 (by kernel_rfl) ?_) | (refine Wc.drawn (id := 14) 15 (by kernel_rfl) ?_) | (refine Wc.drawn (id := 16) 10 (by kernel_rfl) ?_) | refine WL.skp rfl rfl ?_ | refine WL.sku rfl ?_ | (refine rgs_nil ?_; intro vs wk hE; replace H := H.ext hE; clear hE) | refine RGs.skp (fun _ => rfl) rfl ?_ | (refine RGs.bq (fun _ => rfl) rfl (by intro vs w hE hP; have H := H.ext hE; first | exact dbQ | fail) (fun hc => ?_) (fun hc => ?_) <;> ((try simp only [cmpP, decide_eq_true_eq, decide_eq_false_iff_not, dcd_iff, dcd_no] at hc); try exact prDQ)) | refine RGs.pq (fun _ => rfl) rfl (by intro vs w hE hP; have H := H.ext hE; first | exact dvQ | fail) ?_)
            all_goals first | (exfalso; omega) | exact ⟨b'.length + 1 - (j + 1), by omega, j + 1, rfl, by omega, by (repeat' (first | exact Agree.refl _ _ | exact Agree.havoc | refine Agree.upd rfl ?_ | refine Agree.hav2 rfl ?_)), rfl, hnx, H.picks [0, 1] rfl (by decide)⟩ | exact absurd ‹cSlot s9 = cSlot s› hsn
        · have hjE : j = b'.length + 1 := by omega
          rw [hno4 fun ⟨_, x, hx, e⟩ => hno x (by omega) e]
          repeat' (first | ((first | refine WL.p rfl ?_ | refine WL.u ?_ | refine WL.g rfl rfl ?_ | refine WL.gu rfl ?_); first | refine pvQ ?_ | (refine opk 3 rfl ?_; first | (refine ost_eqA rfl (by decide) rfl rfl tyQ tyQ (fun hc => ?_) (fun hc => ?_) <;> try exact prEQ) | (refine ost_neA rfl (by decide) rfl rfl tyQ tyQ (fun hc => ?_) (fun hc => ?_) <;> try exact prEQ) | (refine ost_cmp rfl rfl rfl rfl (fun hc => ?_) (fun hc => ?_) <;> (simp only [cmpP] at hc; try exact prIQ)) | (refine ost_streqB rfl rfl rfl (fun hc => ?_) (fun hc => ?_) <;> try exact prEQ) | (refine ost_strneB rfl rfl rfl (fun hc => ?_) (fun hc => ?_) <;> try exact prEQ) | (refine ost_streq rfl rfl rfl (fun hc => ?_) (fun hc => ?_) <;> try exact absurd rfl hc) | (refine ost_strne rfl rfl rfl (fun hc => ?_) (fun hc => ?_))) | (refine opk 4 rfl ?_; (refine ost_cmp rfl rfl rfl rfl (fun hc => ?_) (fun hc => ?_) <;> (simp only [cmpP] at hc; try exact prIQ))) | (refine opk 8 rfl ?_; (refine ost_storeW H rfl rfl rfl rfl lQ ixQ lQ okQ ?_; clear H; intro wk H; simp only [List.set_cons_zero, List.set_cons_succ, Nat.reduceAdd] at H)) | (refine opk 9 rfl ?_; first | (refine ost_boxq H rfl ?_; clear H; intro bk wk H) | (refine ost_allocA H rfl ?_; clear H; intro bk wk H))) | refine Wc.seq ?_ | refine then_n ?_ | refine WL.nil ?_ | refine Wc.region ?_ | refine Wc.block ?_ | refine then_r ?_ | refine then_e ?_ | refine inb_e rfl ?_ | refine inb_o rfl ?_ | refine inb_n ?_ | refine inb_r ?_ | refine Wc.skip ?_ | refine Wc.exit ?_ | refine Wc.ret ?_ | refine Wc.cond_true rfl ?_ | refine Wc.cond_false rfl ?_ | (refine Wc.drawn (id := 7) 14 (by kernel_rfl) ?_) | (refine Wc.drawn (id := 14) 15 (by kernel_rfl) ?_) | (refine Wc.drawn (id := 16) 10 (by kernel_rfl) ?_) | refine WL.skp rfl rfl ?_ | refine WL.sku rfl ?_ | (refine rgs_nil ?_; intro vs wk hE; replace H := H.ext hE; clear hE) | refine RGs.skp (fun _ => rfl) rfl ?_ | (refine RGs.bq (fun _ => rfl) rfl (by intro vs w hE hP; have H := H.ext hE; first | exact dbQ | fail) (fun hc => ?_) (fun hc => ?_) <;> ((try simp only [cmpP, decide_eq_true_eq, decide_eq_false_iff_not, dcd_iff, dcd_no] at hc); try exact prDQ)) | refine RGs.pq (fun _ => rfl) rfl (by intro vs w hE hP; have H := H.ext hE; first | exact dvQ | fail) ?_)
          exact fn_ret2 (v1 := .slice _ _ _) (v2 := .int _ _) rfl rfl rfl ⟨_, _, H.picks [] rfl (by decide), _, _, rfl, rfl, Sl.nil _ _⟩
    · rw [hL1 hno]
      repeat' (first | ((first | refine WL.p rfl ?_ | refine WL.u ?_ | refine WL.g rfl rfl ?_ | refine WL.gu rfl ?_); first | refine pvQ ?_ | (refine opk 3 rfl ?_; first | (refine ost_eqA rfl (by decide) rfl rfl tyQ tyQ (fun hc => ?_) (fun hc => ?_) <;> try exact prEQ) | (refine ost_neA rfl (by decide) rfl rfl tyQ tyQ (fun hc => ?_) (fun hc => ?_) <;> try exact prEQ) | (refine ost_cmp rfl rfl rfl rfl (fun hc => ?_) (fun hc => ?_) <;> (simp only [cmpP] at hc; try exact prIQ)) | (refine ost_streqB rfl rfl rfl (fun hc => ?_) (fun hc => ?_) <;> try exact prEQ) | (refine ost_strneB rfl rfl rfl (fun hc => ?_) (fun hc => ?_) <;> try exact prEQ) | (refine ost_streq rfl rfl rfl (fun hc => ?_) (fun hc => ?_) <;> try exact absurd rfl hc) | (refine ost_strne rfl rfl rfl (fun hc => ?_) (fun hc => ?_))) | (refine opk 4 rfl ?_; (refine ost_cmp rfl rfl rfl rfl (fun hc => ?_) (fun hc => ?_) <;> (simp only [cmpP] at hc; try exact prIQ))) | (refine opk 8 rfl ?_; (refine ost_storeW H rfl rfl rfl rfl lQ ixQ lQ okQ ?_; clear H; intro wk H; simp only [List.set_cons_zero, List.set_cons_succ, Nat.reduceAdd] at H)) | (refine opk 9 rfl ?_; first | (refine ost_boxq H rfl ?_; clear H; intro bk wk H) | (refine ost_allocA H rfl ?_; clear H; intro bk wk H))) | refine Wc.seq ?_ | refine then_n ?_ | refine WL.nil ?_ | refine Wc.region ?_ | refine Wc.block ?_ | refine then_r ?_ | refine then_e ?_ | refine inb_e rfl ?_ | refine inb_o rfl ?_ | refine inb_n ?_ | refine inb_r ?_ | refine Wc.skip ?_ | refine Wc.exit ?_ | refine Wc.ret ?_ | refine Wc.cond_true rfl ?_ | refine Wc.cond_false rfl ?_ | (refine Wc.drawn (id := 7) 14 (by kernel_rfl) ?_) | (refine Wc.drawn (id := 14) 15 (by kernel_rfl) ?_) | (refine Wc.drawn (id := 16) 10 (by kernel_rfl) ?_) | refine WL.skp rfl rfl ?_ | refine WL.sku rfl ?_ | (refine rgs_nil ?_; intro vs wk hE; replace H := H.ext hE; clear hE) | refine RGs.skp (fun _ => rfl) rfl ?_ | (refine RGs.bq (fun _ => rfl) rfl (by intro vs w hE hP; have H := H.ext hE; first | exact dbQ | fail) (fun hc => ?_) (fun hc => ?_) <;> ((try simp only [cmpP, decide_eq_true_eq, decide_eq_false_iff_not, dcd_iff, dcd_no] at hc); try exact prDQ)) | refine RGs.pq (fun _ => rfl) rfl (by intro vs w hE hP; have H := H.ext hE; first | exact dvQ | fail) ?_)
      all_goals first | (exfalso; omega) | exact fn_ret2 (v1 := .slice _ _ _) (v2 := .int _ _) rfl rfl rfl ⟨_, _, H.picks [] rfl (by decide), _, _, rfl, rfl, Sl.nil _ _⟩
end Go.Tg

set_option linter.unusedVariables false
set_option linter.unusedSimpArgs false
set_option maxRecDepth 100000
set_option maxHeartbeats 4000000
namespace Go.Tg
open Go Go.Proofs
def SrtK (ks : List KeyT) : Prop := ks.Pairwise fun a b => keyN a < keyN b
theorem srtK_iff {ks : List KeyT} : sortedK ks ↔ SrtK ks := by
  unfold SrtK
  rw [List.pairwise_iff_getElem]
  constructor
  · intro h i j hi hj hij
    have := sortedK_mono h (j - i) i (by omega)
    have e : (ks[i + (j - i)]'(by omega)) = ks[j] := by congr 1; omega
    rw [e] at this; omega
  · intro h i hi
    exact h i (i + 1) (by omega) hi (by omega)
theorem SrtK.sub {ks ls : List KeyT} (h : SrtK ks) (hs : ls.Sublist ks) : SrtK ls := List.Pairwise.sublist hs h
def parts {α : Type} (l : List α) : List (List α) := if h : l = [] then [] else l.take 8 :: parts (l.drop 8)
termination_by l.length
decreasing_by
  have := List.length_pos_iff.2 h
  simp; omega
theorem parts_nil {α : Type} : parts ([] : List α) = [] := by rw [parts]; simp
theorem parts_cons {α : Type} {l : List α} (h : l ≠ []) : parts l = l.take 8 :: parts (l.drop 8) := by rw [parts, dif_neg h]
theorem parts_eq {α : Type} : ∀ (n : Nat) (l : List α), l.length ≤ n → (List.range (chN l.length)).map (partK l) = parts l
  | 0, l, h => by
    have : l = [] := List.length_eq_zero_iff.1 (by omega)
    subst this; rw [parts_nil]; simp [chN]
  | n + 1, l, h => by
    by_cases hl : l = []
    · subst hl; rw [parts_nil]; simp [chN]
    · have hp := List.length_pos_iff.2 hl
      have e : chN l.length = chN (l.drop 8).length + 1 := by unfold chN; rw [List.length_drop]; omega
      rw [parts_cons hl, e, List.range_succ_eq_map, List.map_cons, List.map_map, ← parts_eq n (l.drop 8) (by rw [List.length_drop]; omega)]
      have e0 : partK l 0 = l.take 8 := by unfold partK; simp
      rw [e0]
      congr 1
      refine List.map_congr_left fun k _ => ?_
      simp only [Function.comp, partK]
      rw [List.drop_drop]; congr 2; omega
theorem parts_len {α : Type} (l : List α) : (parts l).length = chN l.length := by rw [← parts_eq l.length l (Nat.le_refl _)]; simp
theorem nodePs_parts (l : List PlT) : nodePs l = (parts l).map nodeP := by
  rw [← parts_eq l.length l (Nat.le_refl _), List.map_map]; rfl
theorem leafPs_parts {l : List ItemT} (h : l ≠ []) : leafPs l = (parts l).map leafP := by
  rw [← parts_eq l.length l (Nat.le_refl _), List.map_map]
  unfold leafPs; rw [if_neg h]; rfl
theorem heads_sub {α β : Type} (g : α → β) (z : β) : ∀ (n : Nat) (l : List α), l.length ≤ n → ((parts l).map fun p => (p.map g).headD z).Sublist (l.map g)
  | 0, l, h => by
    have : l = [] := List.length_eq_zero_iff.1 (by omega)
    subst this; rw [parts_nil]; exact List.Sublist.refl _
  | n + 1, l, h => by
    cases l with
    | nil => rw [parts_nil]; exact List.Sublist.refl _
    | cons x t =>
      rw [parts_cons (by simp), List.map_cons, List.map_cons]
      have h1 := heads_sub g z n ((x :: t).drop 8) (by rw [List.length_drop, List.length_cons]; rw [List.length_cons] at h; omega)
      have e : (((x :: t).take 8).map g).headD z = g x := rfl
      rw [e]
      refine List.Sublist.cons_cons _ (h1.trans ?_)
      rw [show (x :: t).drop 8 = t.drop 7 from rfl, List.map_drop]
      exact List.drop_sublist _ _
def Reads (b : List UInt8) (ats : List Nat) (its : List ItemT) (n : Nat) : Prop := ∀ left, n ≤ left → rdF b left ats = some (its, left - n)
theorem Reads.nil (b : List UInt8) : Reads b [] [] 0 := fun left _ => rdF_nil _ _
theorem Reads.app {b : List UInt8} {xs ys : List Nat} {i1 i2 : List ItemT} {n1 n2 : Nat} (h1 : Reads b xs i1 n1) (h2 : Reads b ys i2 n2) : Reads b (xs ++ ys) (i1 ++ i2) (n1 + n2) := fun left hl => by
  rw [rdF_app, h1 left (by omega)]
  simp only [Option.bind_some, h2 (left - n1) (by omega), Option.map_some]
  congr 2; omega
theorem Reads.page {b : List UInt8} {i : Nat} {p : PageT} {its : List ItemT} {n : Nat} (hp : pageAt b i = some p) (h : Reads b (p.kids.map (·.toNat)) its n) : Reads b [i] (itemsP p ++ its) (n + 1) := fun left hl => by
  obtain ⟨left, rfl⟩ : ∃ m, left = m + 1 := ⟨left - 1, by omega⟩
  rw [rdF_page hp, List.append_nil, h left (by omega)]
  simp only [Option.map_some]
  congr 2; omega
inductive RdAll (b : List UInt8) : List PlT → List ItemT → Nat → Prop
  | nil : RdAll b [] [] 0
  | cons {pl : PlT} {pls : List PlT} {i1 its : List ItemT} {n1 n : Nat} : Reads b [pl.2] i1 n1 → RdAll b pls its n → RdAll b (pl :: pls) (i1 ++ its) (n1 + n)
theorem RdAll.reads {b : List UInt8} {pls : List PlT} {its : List ItemT} {n : Nat} (h : RdAll b pls its n) : Reads b (pls.map (·.2)) its n := by
  induction h with
  | nil => exact Reads.nil b
  | cons h1 _ ih => exact Reads.app h1 ih
theorem RdAll.split {b : List UInt8} : ∀ (xs ys : List PlT) (its : List ItemT) (n : Nat), RdAll b (xs ++ ys) its n → ∃ i1 i2 n1 n2, its = i1 ++ i2 ∧ n = n1 + n2 ∧ RdAll b xs i1 n1 ∧ RdAll b ys i2 n2
  | [], ys, its, n, h => ⟨[], its, 0, n, rfl, by omega, .nil, h⟩
  | x :: xs, ys, its, n, h => by
    cases h with
    | cons h1 h2 =>
      obtain ⟨i1, i2, n1, n2, rfl, rfl, h3, h4⟩ := RdAll.split xs ys _ _ h2
      exact ⟨_, _, _, _, (List.append_assoc _ _ _).symm, (Nat.add_assoc _ _ _).symm, .cons h1 h3, h4⟩
theorem encP_pos (p : PageT) : 0 < (encP p).length := by
  unfold encP wrapB; rw [List.length_append, sum4_len]; omega
theorem pageAt_enc {p : PageT} (h : rightP p = true) (x y : List UInt8) : pageAt (x ++ (encP p ++ y)) x.length = some p := by
  have h1 : (x ++ (encP p ++ y)).drop x.length = encP p ++ y := List.drop_left' rfl
  have h2 : firstF (encP p ++ y) = (numsB (natsP p), (encP p).length, 0) := by
    have := natsP_len h
    exact firstF_wrap (xs := numsB (natsP p)) (by omega) y
  have h3 : (encP p ++ y).take (encP p).length = encP p := List.take_left' rfl
  have hp := encP_pos p
  have := pageAt_yes (b := x ++ (encP p ++ y)) (i := x.length) (by simp only [List.length_append]; omega) (by rw [h1, h2]) (by rw [h1, h2]; dsimp only; rw [h3, decP_enc h])
  rw [this, h1, h2]; dsimp only; rw [h3, decP_enc h]
theorem bytesP_cons (p : PageT) (ps : List PageT) : bytesP (p :: ps) = (outP p).1 ++ bytesP ps := rfl
theorem outP_right {p : PageT} (h : rightP p = true) : (outP p).1 = encP p := by unfold outP; rw [if_pos h]
theorem node_right {pls : List PlT} (h : pls ≠ []) (hs : SrtK (pls.map (·.1))) : rightP (nodeP (pls.take 8)) = true := by
  have hp := List.length_pos_iff.2 h
  refine rightP_iff.2 ⟨srtK_iff.2 (hs.sub ?_), ?_⟩
  · unfold nodeP; dsimp only; rw [List.map_take]; exact List.take_sublist _ _
  · unfold nodeP
    rw [shapeP_F]
    simp only [List.length_map, List.length_take, List.length_nil]
    refine ⟨by omega, by omega, trivial, trivial⟩
theorem leaf_right {l : List ItemT} (hs : SrtK (l.map (·.key))) : rightP (leafP (l.take 8)) = true := by
  refine rightP_iff.2 ⟨srtK_iff.2 (hs.sub ?_), ?_⟩
  · unfold leafP; dsimp only; rw [List.map_take]; exact List.take_sublist _ _
  · unfold leafP
    rw [shapeP_T]
    simp only [List.length_map, List.length_take, List.length_nil]
    exact ⟨by omega, trivial, trivial⟩
theorem itemsP_leaf (l : List ItemT) : itemsP (leafP l) = l := by
  unfold itemsP leafP
  dsimp only
  induction l with
  | nil => rfl
  | cons x t ih => rw [List.map_cons, List.map_cons, List.zip_cons_cons, List.map_cons, ih]
theorem itemsP_node (l : List PlT) : itemsP (nodeP l) = [] := by unfold itemsP nodeP; simp
theorem rd_nodes (b y : List UInt8) : ∀ (n0 : Nat) (pls : List PlT), pls.length ≤ n0 → ∀ (x : List UInt8) (its : List ItemT) (n : Nat), b = x ++ (bytesP ((parts pls).map nodeP) ++ y) → (∀ pl, pl ∈ pls → pl.2 < 4294967296) → SrtK (pls.map (·.1)) → RdAll b pls its n →
    RdAll b (placesP x.length ((parts pls).map nodeP)) its (n + (parts pls).length)
  | n0, pls, hn0, x, its, n, hb, hlt, hs, h => by
    by_cases hp : pls = []
    · subst hp
      cases h
      rw [parts_nil]; exact .nil
    · have hpos := List.length_pos_iff.2 hp
      obtain ⟨n0, rfl⟩ : ∃ m, n0 = m + 1 := ⟨n0 - 1, by omega⟩
      have hR := node_right hp hs
      rw [parts_cons hp, List.map_cons, bytesP_cons, outP_right hR, List.append_assoc] at hb
      rw [parts_cons hp, List.map_cons, placesP, List.length_cons, outP_right hR]
      have hsp : pls = pls.take 8 ++ pls.drop 8 := (List.take_append_drop _ _).symm
      rw [hsp] at h
      obtain ⟨i1, i2, n1, n2, rfl, rfl, h1, h2⟩ := RdAll.split _ _ _ _ h
      have hpa : pageAt b x.length = some (nodeP (pls.take 8)) := by rw [hb]; exact pageAt_enc hR _ _
      have hk : (nodeP (pls.take 8)).kids.map (·.toNat) = (pls.take 8).map (·.2) := by
        unfold nodeP
        rw [List.map_map]
        refine List.map_congr_left fun pl hpl => ?_
        have := hlt pl (List.mem_of_mem_take hpl)
        simp only [Function.comp]
        simp; omega
      have hr := Reads.page hpa (by rw [hk]; exact h1.reads)
      rw [itemsP_node, List.nil_append] at hr
      have ih := rd_nodes b y n0 (pls.drop 8) (by rw [List.length_drop]; omega) (x ++ encP (nodeP (pls.take 8))) i2 n2 (by rw [hb, List.append_assoc]) (fun pl hpl => hlt pl (List.mem_of_mem_drop hpl)) (hs.sub (by rw [List.map_drop]; exact List.drop_sublist _ _)) h2
      rw [List.length_append] at ih
      have := RdAll.cons (pl := (key0 (nodeP (pls.take 8)), x.length)) hr ih
      rw [show n1 + n2 + ((parts (pls.drop 8)).length + 1) = n1 + 1 + (n2 + (parts (pls.drop 8)).length) by omega]
      exact this
theorem rd_leaves (b y : List UInt8) : ∀ (n0 : Nat) (l : List ItemT), l.length ≤ n0 → ∀ (x : List UInt8), b = x ++ (bytesP ((parts l).map leafP) ++ y) → SrtK (l.map (·.key)) → RdAll b (placesP x.length ((parts l).map leafP)) l (parts l).length
  | n0, l, hn0, x, hb, hs => by
    by_cases hp : l = []
    · subst hp
      rw [parts_nil]; exact .nil
    · have hpos := List.length_pos_iff.2 hp
      obtain ⟨n0, rfl⟩ : ∃ m, n0 = m + 1 := ⟨n0 - 1, by omega⟩
      have hR := leaf_right hs
      rw [parts_cons hp, List.map_cons, bytesP_cons, outP_right hR, List.append_assoc] at hb
      have hpa : pageAt b x.length = some (leafP (l.take 8)) := by rw [hb]; exact pageAt_enc hR _ _
      have hr := Reads.page hpa (its := []) (n := 0) (Reads.nil b)
      rw [itemsP_leaf, List.append_nil] at hr
      have ih := rd_leaves b y n0 (l.drop 8) (by rw [List.length_drop]; omega) (x ++ encP (leafP (l.take 8))) (by rw [hb, List.append_assoc]) (hs.sub (by rw [List.map_drop]; exact List.drop_sublist _ _))
      rw [List.length_append] at ih
      have := RdAll.cons (pl := (key0 (leafP (l.take 8)), x.length)) hr ih
      rw [List.take_append_drop] at this
      rw [parts_cons hp, List.map_cons, placesP, List.length_cons, outP_right hR]
      rw [show (parts (l.drop 8)).length + 1 = 0 + 1 + (parts (l.drop 8)).length by omega]
      exact this
end Go.Tg

set_option linter.unusedVariables false
set_option linter.unusedSimpArgs false
set_option maxRecDepth 100000
set_option maxHeartbeats 4000000
namespace Go.Tg
open Go Go.Proofs
theorem upG_pre (base : Nat) (xs : List UInt8) (pls : List PlT) : ∃ t, (upG base xs pls).1 = xs ++ t := by
  by_cases h : 1 < pls.length
  · rw [upG_step h]
    obtain ⟨t, ht⟩ := upG_pre base (xs ++ bytesP (nodePs pls)) (placesP (base + xs.length) (nodePs pls))
    exact ⟨bytesP (nodePs pls) ++ t, by rw [ht, List.append_assoc]⟩
  · rw [upG_end h]; exact ⟨[], by simp⟩
termination_by pls.length
decreasing_by rw [placesP_len, nodePs_len]; unfold chN; omega
theorem places_fst : ∀ (off : Nat) (ps : List PageT), (placesP off ps).map (·.1) = ps.map key0
  | _, [] => rfl
  | off, p :: ps => by rw [placesP, List.map_cons, List.map_cons, places_fst]
theorem places_snd : ∀ (off : Nat) (ps : List PageT) (pl : PlT), pl ∈ placesP off ps → pl.2 ≤ off + (bytesP ps).length
  | _, [], pl, h => by simp [placesP] at h
  | off, p :: ps, pl, h => by
    rw [placesP] at h
    rw [bytesP_cons, List.length_append]
    rcases List.mem_cons.1 h with rfl | h
    · dsimp only; omega
    · have := places_snd _ ps pl h; omega
theorem srt_nodes {pls : List PlT} (h : SrtK (pls.map (·.1))) (off : Nat) : SrtK ((placesP off (nodePs pls)).map (·.1)) := by
  rw [places_fst, nodePs_parts, List.map_map]
  exact h.sub (show ((parts pls).map (key0 ∘ nodeP)).Sublist _ from heads_sub (fun x : PlT => x.1) zeroK pls.length pls (Nat.le_refl _))
theorem srt_leaves {l : List ItemT} (hl : l ≠ []) (h : SrtK (l.map (·.key))) (off : Nat) : SrtK ((placesP off (leafPs l)).map (·.1)) := by
  rw [places_fst, leafPs_parts hl, List.map_map]
  exact h.sub (show ((parts l).map (key0 ∘ leafP)).Sublist _ from heads_sub (fun x : ItemT => x.key) zeroK l.length l (Nat.le_refl _))
theorem parts_one {α : Type} {l : List α} (h : (parts l).length = 1) : parts l = [l.take 8] := by
  have hl : l ≠ [] := fun e => by subst e; rw [parts_nil] at h; cases h
  rw [parts_cons hl] at h ⊢
  rw [List.length_cons] at h
  rw [List.length_eq_zero_iff.1 (by omega : (parts (l.drop 8)).length = 0)]
theorem rd_up (pre b post : List UInt8) : ∀ (n0 : Nat) (pls : List PlT), pls.length ≤ n0 → ∀ (xs : List UInt8) (its : List ItemT) (n : Nat) (q : Bool), 1 ≤ pls.length → b = pre ++ ((upG pre.length xs pls).1 ++ post) → (∀ pl, pl ∈ pls → pl.2 < 4294967296) → SrtK (pls.map (·.1)) → RdAll b pls its n →
    pre.length + (upG pre.length xs pls).1.length < 4294967296 → (∀ y, pls = [y] → ∃ u p, xs = u ++ encP p ∧ y.2 = pre.length + u.length ∧ rightP p = true ∧ p.leaf = q) →
    ∃ y N, (upG pre.length xs pls).2 = [y] ∧ RdAll b [y] its N ∧ N ≤ n + pls.length ∧ y.2 < 4294967296 ∧ ∃ u p, (upG pre.length xs pls).1 = u ++ encP p ∧ y.2 = pre.length + u.length ∧ rightP p = true ∧ p.leaf = (decide (pls.length = 1) && q)
  | n0, pls, hn0, xs, its, n, q, h1, hb, hlt, hs, hR, hsz, hL => by
    by_cases hp : 1 < pls.length
    · obtain ⟨n0, rfl⟩ : ∃ m, n0 = m + 1 := ⟨n0 - 1, by omega⟩
      have hne : pls ≠ [] := fun e => by subst e; simp at hp
      rw [upG_step hp] at hb hsz ⊢
      obtain ⟨t, ht⟩ := upG_pre pre.length (xs ++ bytesP (nodePs pls)) (placesP (pre.length + xs.length) (nodePs pls))
      have hb2 : b = (pre ++ xs) ++ (bytesP ((parts pls).map nodeP) ++ (t ++ post)) := by
        rw [hb, ht, nodePs_parts]; simp
      have hr2 := rd_nodes b (t ++ post) pls.length pls (Nat.le_refl _) (pre ++ xs) its n hb2 hlt hs hR
      rw [List.length_append, ← nodePs_parts] at hr2
      have hpl := placesP_len (pre.length + xs.length) (nodePs pls)
      have hnl := nodePs_len pls
      have hpn := parts_len pls
      have hcn : 1 ≤ chN pls.length ∧ 2 * chN pls.length ≤ pls.length := by unfold chN; omega
      have hss := srt_nodes hs (pre.length + xs.length)
      have hll : (xs ++ bytesP (nodePs pls)).length ≤ (upG pre.length (xs ++ bytesP (nodePs pls)) (placesP (pre.length + xs.length) (nodePs pls))).1.length := by
        rw [ht]; simp only [List.length_append]; omega
      rw [List.length_append] at hll
      obtain ⟨y, N, e1, e2, e3, e4, u, p, e5, e6, e7, e8⟩ := rd_up pre b post n0 (placesP (pre.length + xs.length) (nodePs pls)) (by omega) (xs ++ bytesP (nodePs pls)) its _ false (by omega) hb (fun pl hpl => by have := places_snd _ _ pl hpl; omega) hss hr2 hsz (fun y hy => by
        have hl1 : (parts pls).length = 1 := by
          have := congrArg List.length hy
          rw [List.length_singleton] at this; omega
        have hR1 := node_right hne hs
        have hn1 : nodePs pls = [nodeP (pls.take 8)] := by rw [nodePs_parts, parts_one hl1]; rfl
        rw [hn1] at hy ⊢
        rw [placesP, placesP] at hy
        injection hy with hy
        refine ⟨xs, nodeP (pls.take 8), ?_, ?_, hR1, rfl⟩
        · rw [bytesP_cons, outP_right hR1]; simp [bytesP]
        · rw [← hy])
      refine ⟨y, N, e1, e2, by omega, e4, u, p, e5, e6, e7, ?_⟩
      rw [e8, decide_eq_false (by omega : ¬ pls.length = 1)]; simp
    · rw [upG_end hp] at hb hsz ⊢
      obtain ⟨y, rfl⟩ : ∃ y, pls = [y] := by
        match pls, h1, hp with
        | [y], _, _ => exact ⟨y, rfl⟩
        | y :: z :: t, _, h => exact absurd (by simp) h
      obtain ⟨u, p, e1, e2, e3, e4⟩ := hL y rfl
      exact ⟨y, n, rfl, hR, by omega, hlt y (by simp), u, p, e1, e2, e3, by rw [e4]; simp⟩
theorem rd_dump {l : List ItemT} {v : UInt64} {pre : List UInt8} (h : (dumpM l v pre.length).2.2 = 0) (hpre : pre.length ≤ 1073741824) (post : List UInt8) :
    ∃ root lf u p, (dumpM l v pre.length) = ((dumpM l v pre.length).1, ⟨v, UInt32.ofNat root, UInt32.ofNat (pre.length + (dumpM l v pre.length).1.length), UInt32.ofNat l.length⟩, 0) ∧ root < 4294967296 ∧
      rdF (pre ++ ((dumpM l v pre.length).1 ++ post)) 8192 [root] = some (l, lf) ∧ (dumpM l v pre.length).1 = u ++ encP p ∧ root = pre.length + u.length ∧ rightP p = true ∧ p.leaf = decide (l.length ≤ 8) := by
  obtain ⟨hr, hl4⟩ := dumpM_ok h
  have hlen := dumpM_len l v pre.length
  have hc1 : ¬ ((pre.length : Int) < 0 ∨ 1073741824 < (pre.length : Int) ∨ riseL l = false) := by rw [hr]; simp; omega
  have hd : dumpM l v pre.length = ((upL l pre.length).1, ⟨v, UInt32.ofNat ((upL l pre.length).2.headD (zeroK, 0)).2, UInt32.ofNat (pre.length + (upL l pre.length).1.length), UInt32.ofNat l.length⟩, 0) := by
    unfold dumpM
    rw [if_neg hc1, if_neg (by omega)]; rfl
  have hs : SrtK (l.map (·.key)) := by
    unfold riseL at hr; exact srtK_iff.1 (dcd_iff.1 hr)
  rw [hd] at hlen
  dsimp only at hlen
  suffices ∃ y N, (upL l pre.length).2 = [y] ∧ RdAll (pre ++ ((upL l pre.length).1 ++ post)) [y] l N ∧ N ≤ 8192 ∧ y.2 < 4294967296 ∧ ∃ u p, (upL l pre.length).1 = u ++ encP p ∧ y.2 = pre.length + u.length ∧ rightP p = true ∧ p.leaf = decide (l.length ≤ 8) by
    obtain ⟨y, N, e1, e2, e3, e4, u, p, e5, e6, e7, e8⟩ := this
    refine ⟨y.2, 8192 - N, u, p, ?_, e4, ?_, ?_, e6, e7, e8⟩
    · rw [hd, e1]; rfl
    · rw [hd]
      have := e2.reads 8192 e3
      exact this
    · rw [hd]; exact e5
  unfold upL at hlen ⊢
  have hll := placesP_len pre.length (leafPs l)
  have hbp := bytesP_len (leafPs l)
  obtain ⟨t, ht⟩ := upG_pre pre.length (bytesP (leafPs l)) (placesP pre.length (leafPs l))
  by_cases hl0 : l = []
  · subst hl0
    have e1 : leafPs [] = [leafP []] := rfl
    have hR : rightP (leafP []) = true := leaf_right (l := []) List.Pairwise.nil
    have hb1 : bytesP [leafP []] = encP (leafP []) := by rw [bytesP_cons, outP_right hR]; simp [bytesP]
    rw [e1] at hlen ⊢
    have hp1 : placesP pre.length [leafP []] = [(zeroK, pre.length)] := by rw [placesP, placesP]; rfl
    rw [hp1, hb1] at hlen ⊢
    rw [upG_end (by simp)] at hlen ⊢
    have hpa := pageAt_enc hR pre post
    have hrd := Reads.page hpa (its := []) (n := 0) (Reads.nil _)
    rw [itemsP_leaf] at hrd
    exact ⟨_, 0 + 1 + 0, rfl, RdAll.cons (pl := (zeroK, pre.length)) (i1 := []) (its := []) (n1 := 0 + 1) (n := 0) hrd .nil, by decide, by dsimp only; omega, [], leafP [], rfl, rfl, hR, rfl⟩
  · have hrl := rd_leaves (pre ++ ((upG pre.length (bytesP (leafPs l)) (placesP pre.length (leafPs l))).1 ++ post)) (t ++ post) l.length l (Nat.le_refl _) pre (by rw [ht, ← leafPs_parts hl0, List.append_assoc]) hs
    rw [← leafPs_parts hl0] at hrl
    have hpn := parts_len l
    have hlp : (leafPs l).length = chN l.length := by rw [leafPs_parts hl0, List.length_map, hpn]
    have hlpos := List.length_pos_iff.2 hl0
    unfold chN at hpn hlp
    obtain ⟨y, N, e1, e2, e3, e4, u, p, e5, e6, e7, e8⟩ := rd_up pre _ post _ (placesP pre.length (leafPs l)) (Nat.le_refl _) (bytesP (leafPs l)) l (parts l).length true (by omega) rfl (fun pl hpl => by have := places_snd _ _ pl hpl; omega) (srt_leaves hl0 hs _) hrl (by omega) (fun y hy => by
      have hl1 : (parts l).length = 1 := by
        have := congrArg List.length hy
        rw [List.length_singleton] at this; omega
      have hR1 := leaf_right hs
      have hn1 : leafPs l = [leafP (l.take 8)] := by rw [leafPs_parts hl0, parts_one hl1]; rfl
      rw [hn1] at hy ⊢
      rw [placesP, placesP] at hy
      injection hy with hy
      refine ⟨[], leafP (l.take 8), ?_, ?_, hR1, rfl⟩
      · rw [bytesP_cons, outP_right hR1]; simp [bytesP]
      · rw [← hy]; rfl)
    refine ⟨y, N, e1, e2, by omega, e4, u, p, e5, e6, e7, ?_⟩
    rw [e8, Bool.and_true]
    exact decide_eq_decide.2 (by omega)
theorem load_dump {l : List ItemT} {v : UInt64} {pre : List UInt8} (h : (dumpM l v pre.length).2.2 = 0) (hpre : pre.length ≤ 1073741824) (post : List UInt8) :
    loadL (pre ++ ((dumpM l v pre.length).1 ++ post)) (dumpM l v pre.length).2.1 = (l, 0) := by
  obtain ⟨root, lf, u, p, hd, hroot, hrd, -⟩ := rd_dump h hpre []
  have hl4 := (dumpM_ok h).2
  have hlen := dumpM_len l v pre.length
  rw [List.append_nil] at hrd
  generalize hX : (dumpM l v pre.length).1 = X at *
  have hs : (dumpM l v pre.length).2.1 = ⟨v, UInt32.ofNat root, UInt32.ofNat (pre.length + X.length), UInt32.ofNat l.length⟩ := by rw [hd]
  have hE : (UInt32.ofNat (pre.length + X.length)).toNat = (pre ++ X).length := by simp; omega
  have hA : (UInt32.ofNat root).toNat = root := by simp; omega
  have htk : (pre ++ (X ++ post)).take (pre ++ X).length = pre ++ X := by rw [← List.append_assoc]; exact List.take_left' rfl
  rw [hs]
  refine loadL_yes (r := (l, lf)) ?_ ?_ ⟨hl4, pre.length, ?_, ?_⟩
  · dsimp only; rw [hE]; simp only [List.length_append]; omega
  · dsimp only; rw [hE, hA, htk]; exact hrd
  · dsimp only; rw [hE, List.length_append]; omega
  · dsimp only; rw [hE, htk, List.drop_left' rfl]; exact hd
end Go.Tg

